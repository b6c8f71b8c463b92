/- HealthReports walked. -/
import Derived.Test.YtpiahnecpbalhaaHeN
import Derived.Test.YtpiahnecpbalhaaHeF
import Derived.Deep.LoopGhost
import Derived.Deep.DeepCutAuto
namespace Go.Proofs.Ytpiahnecpbalhaa
open Go.RowKit

def ptQ (x : Nat × Nat × Nat × Nat) : Pt := ⟨0, 0, 0, 0, 0, x.1 % 4, x.2.1 % 4, x.2.2.1 % 4, x.2.2.2 % 4⟩
def psOf (qs : List (Nat × Nat × Nat × Nat)) (i : Nat) : List Pt := (qs.take i).map ptQ
theorem psOf_len {qs : List (Nat × Nat × Nat × Nat)} {i : Nat} (h : i ≤ qs.length) : (psOf qs i).length = i := by simp [psOf]; omega
theorem psOf_succ {qs : List (Nat × Nat × Nat × Nat)} {i : Nat} {x : Nat × Nat × Nat × Nat} (h : qs[i]? = some x) : psOf qs (i + 1) = psOf qs i ++ [ptQ x] := by
  unfold psOf
  rw [List.take_add_one, h]
  simp
def pcs (y0 y1 y2 y3 : Nat) : Nat → Array Value
  | 0 => #[.int .i64 0, .int .i64 0, .int .i64 0, .int .i64 0, .int .i64 0, .int .u8 0, .int .u8 0, .int .u8 0, .int .u8 0]
  | 1 => #[.int .i64 0, .int .i64 0, .int .i64 0, .int .i64 0, .int .i64 0, .int .u8 y0, .int .u8 0, .int .u8 0, .int .u8 0]
  | 2 => #[.int .i64 0, .int .i64 0, .int .i64 0, .int .i64 0, .int .i64 0, .int .u8 y0, .int .u8 y1, .int .u8 0, .int .u8 0]
  | 3 => #[.int .i64 0, .int .i64 0, .int .i64 0, .int .i64 0, .int .i64 0, .int .u8 y0, .int .u8 y1, .int .u8 y2, .int .u8 0]
  | _ => #[.int .i64 0, .int .i64 0, .int .i64 0, .int .i64 0, .int .i64 0, .int .u8 y0, .int .u8 y1, .int .u8 y2, .int .u8 y3]
theorem cells9 {w0 w : World} {S : Nat → Prop} {L : List Res} {p : Nat} {T : TypeId} {fr : Nat × Nat} {a0 a1 a2 a3 a4 a5 a6 a7 a8 : Value} (h : Own w0 S w L) (k : Nat) (hk : L[k]? = some (blk p (.cells #[a0, a1, a2, a3, a4, a5, a6, a7, a8] T fr))) :
    w.cell? ⟨p, 0, none⟩ = some a0 ∧ w.cell? ⟨p, 1, none⟩ = some a1 ∧ w.cell? ⟨p, 2, none⟩ = some a2 ∧ w.cell? ⟨p, 3, none⟩ = some a3 ∧ w.cell? ⟨p, 4, none⟩ = some a4 ∧ w.cell? ⟨p, 5, none⟩ = some a5 ∧ w.cell? ⟨p, 6, none⟩ = some a6 ∧ w.cell? ⟨p, 7, none⟩ = some a7 ∧ w.cell? ⟨p, 8, none⟩ = some a8 :=
  ⟨h.cell k hk 0, h.cell k hk 1, h.cell k hk 2, h.cell k hk 3, h.cell k hk 4, h.cell k hk 5, h.cell k hk 6, h.cell k hk 7, h.cell k hk 8⟩
theorem cells4 {w0 w : World} {S : Nat → Prop} {L : List Res} {p : Nat} {T : TypeId} {fr : Nat × Nat} {a0 a1 a2 a3 : Value} (h : Own w0 S w L) (k : Nat) (hk : L[k]? = some (blk p (.cells #[a0, a1, a2, a3] T fr))) :
    w.cell? ⟨p, 0, none⟩ = some a0 ∧ w.cell? ⟨p, 1, none⟩ = some a1 ∧ w.cell? ⟨p, 2, none⟩ = some a2 ∧ w.cell? ⟨p, 3, none⟩ = some a3 :=
  ⟨h.cell k hk 0, h.cell k hk 1, h.cell k hk 2, h.cell k hk 3⟩
theorem mod4 (x : Nat) : ∃ y : Nat, y = x % 4 ∧ (x : Int) % 4 = (y : Int) ∧ (x : Int).tmod 4 = (y : Int) := ⟨x % 4, rfl, by omega, by rw [Int.tmod_eq_emod_of_nonneg (by omega)]; omega⟩
/-- What stays within its bounds. -/
def Rng (i n : Nat) (last again : List Int) : Prop := last.length = n ∧ again.length = n ∧ (∀ l ∈ last, 0 ≤ l ∧ l ≤ 1048576) ∧ ∀ g ∈ again, 0 ≤ g ∧ g ≤ (i : Int)
theorem rng_next {i n : Nat} {last again : List Int} (h : Rng i n last again) : Rng (i + 1) n last again := ⟨h.1, h.2.1, h.2.2.1, fun g hg => by have := h.2.2.2 g hg; omega⟩
theorem rng_set {i n p : Nat} {last again : List Int} {a round : Nat} {l g l' g' : Int} {a' : Nat} (h : Rng i n last again) (hl : last[p]? = some l) (hg : again[p]? = some g) (hround : round < 1048576) (hr : repS a l g round = (a', l', g')) : Rng (i + 1) n (last.set p l') (again.set p g') := by
  have hl1 := h.2.2.1 l (List.mem_of_getElem? hl)
  have hg1 := h.2.2.2 g (List.mem_of_getElem? hg)
  have hb : (0 ≤ l' ∧ l' ≤ 1048576) ∧ 0 ≤ g' ∧ g' ≤ (i : Int) + 1 := by
    unfold repS at hr
    split at hr
    · injection hr with e1 e2
      injection e2 with e2 e3
      subst e2 e3
      refine ⟨by omega, ?_⟩
      split <;> omega
    · injection hr with e1 e2
      injection e2 with e2 e3
      subst e2 e3
      omega
  refine ⟨by rw [List.length_set]; exact h.1, by rw [List.length_set]; exact h.2.1, fun x hx => ?_, fun x hx => ?_⟩
  · rcases List.mem_or_eq_of_mem_set hx with hx | rfl
    · exact h.2.2.1 x hx
    · exact hb.1
  · rcases List.mem_or_eq_of_mem_set hx with hx | rfl
    · have := h.2.2.2 x hx; omega
    · omega
theorem rc_get (x : Nat × Nat × Nat × Nat) (k : Nat) (hk : k < 4) : ∃ a, (ptQ x).rc[k]? = some a := ⟨_, List.getElem?_eq_getElem (by simpa [Pt.rc] using hk)⟩
theorem pts_one (ps : List Pt) : ∀ u ∈ ps.flatMap Pt.cells, u.oneCell' = true := by
  intro u hu
  obtain ⟨x, _, hx⟩ := List.mem_flatMap.1 hu
  exact pt_one x u hx
theorem u8_id (k : Nat) (h : k < 256) : IntKind.u8.wrap (k : Int) = (k : Int) := by unfold IntKind.wrap; simp [IntKind.signed, IntKind.bits]; omega
theorem u64_mod (z : Int) (m : Nat) (hm : 0 < m) : ∃ f : Nat, f < m ∧ (IntKind.u64.wrap z).tmod (m : Int) = f ∧ IntKind.u64.wrap z % (m : Int) = f := by
  have h0 : 0 ≤ IntKind.u64.wrap z := by unfold IntKind.wrap; simp [IntKind.signed, IntKind.bits]; omega
  have h1 : 0 ≤ IntKind.u64.wrap z % (m : Int) := Int.emod_nonneg _ (by omega)
  have h2 : IntKind.u64.wrap z % (m : Int) < m := Int.emod_lt_of_pos _ (by omega)
  exact ⟨(IntKind.u64.wrap z % (m : Int)).toNat, by omega, by rw [Int.tmod_eq_emod_of_nonneg h0]; omega, by omega⟩
theorem read_none (W : World) : Calls Try.prog 22 #[.nilIface] W fun e w' => e = .returned (.string ⟨#[]⟩) ∧ Below W.heap.size W w' := read_any [] none .nilIface W rfl ⟨by decide, by simp, by simp⟩
theorem read_two (W : World) : Calls Try.prog 22 #[.iface 81 (.int .i64 2)] W fun e w' => e = .returned (.string (numB 2)) ∧ Below W.heap.size W w' := read_any [] (some 2) _ W rfl ⟨by decide, by simp, by simp⟩
set_option maxRecDepth 100000
set_option maxHeartbeats 16000000
theorem healthReports_walk (a0 : Int) (A1 : Option Addr) (len1 cap1 : Nat) (z1 : List (List Value)) (A2 : Option Addr) (len2 cap2 : Nat) (z2 : List (List Value)) (w : World) (_ : (Lit.int .i64 a0).wf = true)
    (h1 : Rows' w 4 [.int .u8, .int .u8, .int .u8, .int .u8] A1 len1 cap1 z1) (h2 : Rows' w 24 [.bool, .int .u32, .int .i64, .int .i64] A2 len2 cap2 z2) :
    Calls Try.prog 3 #[.int .i64 a0, .slice A1 len1 cap1, .slice A2 len2 cap2] w fun e w' => e = .returned (.bool true) ∧ Below w.heap.size w w' := by
  obtain ⟨qs, hQ⟩ := quads_of h1
  obtain ⟨acs, hA⟩ := acts_of h2
  have hcap1 := h1.cap
  have hcap2 := h2.cap
  unfold maxLen at hcap1 hcap2
  clear h1 h2
  have hql := Hidd.mk hQ.1
  have hal := Hidd.mk hA.1
  replace hQ := Hidd.mk hQ
  replace hA := Hidd.mk hA
  obtain ⟨nd, hnd, hn1, hn2⟩ := u64_mod a0 7 (by decide)
  rw [show ((7 : Nat) : Int) = 7 from rfl] at hn1 hn2
  replace hnd := Hidd.mk hnd
  by_cases h5 : 50 < len1
  · have d1 : decide (50 < len1) = true := decide_eq_true h5
    go_enter Try.func3, Try.ntmps3
    go_wp2_with (go_at_call 14; refine (awake_any _).mono ?_; rintro e w1 ⟨rfl, hb1⟩)
    go_ret
    exact ⟨rfl, hb1⟩
  · have d1 : decide (50 < len1) = false := decide_eq_false h5
    have hl50 : Hidd (len1 ≤ 50) := ⟨by omega⟩
    obtain ⟨iP, hIP⟩ := info_parts info_part
    replace hIP := Hidd.mk hIP
    go_enter Try.func3, Try.ntmps3
    go_wp2_with (go_at_call 14; refine (awake_any _).mono ?_; rintro e w1 ⟨rfl, hb1⟩; have hb1 := Hidd.mk hb1)
    have ho0 : Hidd (Own w (fun _ => False) w1 [row 31 9 (.slice none 0 0) 0 ((psOf qs 0).flatMap Pt.cells)]) := ⟨row_nil ((Own.nil w (fun _ => False)).ext hb1.out) 31 9⟩
    clear hb1 h5
    go_loopg [7, 32] len1 (fun g v7 v32 wx => ∃ (i : Nat) (A : Option Addr) (c : Nat), i + g = len1 ∧ v7 = .slice A i c ∧ v32 = .int .i64 i ∧ Hidd (Own w (fun _ => False) wx [row 31 9 (.slice A i c) i ((psOf qs i).flatMap Pt.cells)]))
    case atStart => exact ⟨0, none, 0, by omega, rfl, rfl, ho0⟩
    case round =>
      clear ho0
      obtain ⟨i, A, c, hg, rfl, rfl, ho⟩ := hrel
      cases gk with
      | succ g =>
        -- {A
        have hi : i < len1 := by omega
        have hgi : i + 1 + g = len1 := by omega
        have di : decide (i < len1) = true := decide_eq_true hi
        have bi0 : (0 : Int) ≤ (i : Int) := by omega
        have bi1 : (i : Int) < (len1 : Int) := by omega
        obtain ⟨x, hx⟩ : ∃ x, qs[i]? = some x := ⟨_, List.getElem?_eq_getElem (by rw [hql.out]; exact hi)⟩
        obtain ⟨a, rfl, y0, y1, y2, y3⟩ := (hQ.out.below (ho.out.below fun _ => id)).2 i x hx
        obtain ⟨q0, e0, m0, t0⟩ := mod4 x.1
        obtain ⟨q1, e1, m1, t1⟩ := mod4 x.2.1
        obtain ⟨q2, e2, m2, t2⟩ := mod4 x.2.2.1
        obtain ⟨q3, e3, m3, t3⟩ := mod4 x.2.2.2
        have hps : Hidd (psOf qs (i + 1) = psOf qs i ++ [⟨0, 0, 0, 0, 0, q0, q1, q2, q3⟩]) := ⟨by rw [psOf_succ hx, e0, e1, e2, e3]; rfl⟩
        have hpl : Hidd ((psOf qs i).length = i) := ⟨psOf_len (by rw [hql.out]; omega)⟩
        generalize x.1 = x0 at *
        generalize x.2.1 = x1 at *
        generalize x.2.2.1 = x2 at *
        generalize x.2.2.2 = x3 at *
        clear hx e0 e1 e2 e3 hg hi
        have hab : (a.add (i * 4)).block < wr.heap.size := World.block_lt_of_cell? wr _ y0
        have ho2 := (ho.out.alloc (.cells #[.int .u8 x0, .int .u8 x1, .int .u8 x2, .int .u8 x3] 27 (0, 0))).alloc (.cells #[.int .i64 0, .int .i64 0, .int .i64 0, .int .i64 0, .int .i64 0, .int .u8 0, .int .u8 0, .int .u8 0, .int .u8 0] 31 (0, 0))
        rw [World.size_alloc] at ho2
        replace ho2 : Hidd (Own w (fun _ => False) _ [blk (wr.heap.size + 1) (.cells (pcs q0 q1 q2 q3 0) 31 (0, 0)), blk wr.heap.size (.cells #[.int .u8 x0, .int .u8 x1, .int .u8 x2, .int .u8 x3] 27 (0, 0)), row 31 9 (.slice A i c) i ((psOf qs i).flatMap Pt.cells)]) := ⟨ho2⟩
        go_upto_region 12 with fail
        clear ho y0 y1 y2 y3
        generalize World.alloc (World.alloc wr _) _ = wa at ho2 ⊢
        clear hab
        obtain ⟨b2, hb2⟩ : ∃ b2, b2 = wr.heap.size + 1 := ⟨_, rfl⟩
        rw [← hb2] at ho2 ⊢
        generalize wr.heap.size = b1 at ho2 ⊢
        clear hb2
        go_loopg [37] 4 (fun g3 v37 wx => ∃ (j : Nat), j + g3 = 4 ∧ v37 = .int .i64 j ∧ Hidd (Own w (fun _ => False) wx [blk b2 (.cells (pcs q0 q1 q2 q3 j) 31 (0, 0)), blk b1 (.cells #[.int .u8 x0, .int .u8 x1, .int .u8 x2, .int .u8 x3] 27 (0, 0)), row 31 9 (.slice A i c) i ((psOf qs i).flatMap Pt.cells)]))
        case atStart => exact ⟨0, by omega, rfl, ho2⟩
        case round =>
          clear ho2
          obtain ⟨j, hg3, rfl, ho⟩ := hrel
          cases gk with
          | succ g3 =>
            obtain ⟨z0, z1, z2, z3⟩ := cells4 ho.out 1 rfl
            obtain ⟨rfl, rfl⟩ | ⟨rfl, rfl⟩ | ⟨rfl, rfl⟩ | ⟨rfl, rfl⟩ : (j = 0 ∧ g3 = 3) ∨ (j = 1 ∧ g3 = 2) ∨ (j = 2 ∧ g3 = 1) ∨ (j = 3 ∧ g3 = 0) := by omega
            · have f5 := ho.out.frozen 0 rfl 5
              obtain ⟨p0, p1, p2, p3, p4, p5, p6, p7, p8⟩ := cells9 ho.out 0 rfl
              have ho3 := Hidd.mk (ho.out.set 0 rfl 5 (.int .u8 q0))
              go_wp2
              go_roundg 3
              case rel => exact ⟨1, by omega, by go_num, ho3⟩
              case measure => omega
            · have f5 := ho.out.frozen 0 rfl 6
              obtain ⟨p0, p1, p2, p3, p4, p5, p6, p7, p8⟩ := cells9 ho.out 0 rfl
              have ho3 := Hidd.mk (ho.out.set 0 rfl 6 (.int .u8 q1))
              go_wp2
              go_roundg 2
              case rel => exact ⟨2, by omega, by go_num, ho3⟩
              case measure => omega
            · have f5 := ho.out.frozen 0 rfl 7
              obtain ⟨p0, p1, p2, p3, p4, p5, p6, p7, p8⟩ := cells9 ho.out 0 rfl
              have ho3 := Hidd.mk (ho.out.set 0 rfl 7 (.int .u8 q2))
              go_wp2
              go_roundg 1
              case rel => exact ⟨3, by omega, by go_num, ho3⟩
              case measure => omega
            · have f5 := ho.out.frozen 0 rfl 8
              obtain ⟨p0, p1, p2, p3, p4, p5, p6, p7, p8⟩ := cells9 ho.out 0 rfl
              have ho3 := Hidd.mk (ho.out.set 0 rfl 8 (.int .u8 q3))
              go_wp2
              go_roundg 0
              case rel => exact ⟨4, by omega, by go_num, ho3⟩
              case measure => omega
          | zero =>
            obtain rfl : j = 4 := by omega
            obtain ⟨p0, p1, p2, p3, p4, p5, p6, p7, p8⟩ := cells9 ho.out 0 rfl
            have hcs : Hidd (i + 1 ≤ 50) := ⟨by have := hl50.out; omega⟩
            go_wp2_with (at_builtin; have hl := row_lit ho.out 31 9 1 (pcs q0 q1 q2 q3 4) (Pt.cells ⟨0, 0, 0, 0, 0, q0, q1, q2, q3⟩) rfl rfl (by decide); refine wpList_row rfl _ _ 26 rfl 31 iP (.agg #[.int .i64 0, .int .i64 0, .int .i64 0, .int .i64 0, .int .i64 0, .int .u8 0, .int .u8 0, .int .u8 0, .int .u8 0]) 9 48 Try.underlying26 hIP.out.1 hIP.out.2.1 hIP.out.2.2.1 hIP.out.2.2.2 (by rfl) (by decide) hl 3 A i c ((psOf qs i).flatMap Pt.cells) rfl rfl _ 1 1 (Pt.cells ⟨0, 0, 0, 0, 0, q0, q1, q2, q3⟩) rfl rfl (row_cells hl 0 rfl) (by intro _ h; cases h) (pt_one _) (by have := hcs.out; unfold maxLen; omega) (by have := hcs.out; omega) ?_; intro A4 c4 w4 ho4; have ho5 := Hidd.mk (ho4.reorder (M := [row 31 9 (.slice A4 (i + 1) c4) (i + 1) ((psOf qs (i + 1)).flatMap Pt.cells)]) [3] (by rw [hps.out, List.flatMap_append, List.flatMap_singleton]; rfl) (by decide)); clear hl ho ho4)
            go_roundg g
            case rel => exact ⟨i + 1, A4, c4, hgi, rfl, by go_num, ho5⟩
            case measure => omega
        -- A}
      | zero =>
        obtain rfl : i = len1 := by omega
        have di : decide (i < i) = false := by simp
        have hpl : Hidd ((psOf qs i).length = i) := ⟨psOf_len (by rw [hql.out]; exact Nat.le_refl _)⟩
        have hget : Hidd (∀ p, p < i → ∃ x, (psOf qs i)[p]? = some x ∧ ∀ k, k < 4 → ∃ a, x.rc[k]? = some a) := ⟨fun p hp => by
          obtain ⟨x, hx⟩ : ∃ x, (psOf qs i)[p]? = some x := ⟨_, List.getElem?_eq_getElem (by rw [hpl.out]; exact hp)⟩
          refine ⟨x, hx, fun k hk => ?_⟩
          have hm := List.mem_of_getElem? hx
          simp only [psOf, List.mem_map] at hm
          obtain ⟨q, _, rfl⟩ := hm
          exact rc_get q k hk⟩
        generalize psOf qs i = ps at ho hpl hget
        clear hg hQ hql
        go_wp2_with (first
          | (at_builtin; have hl := row_lit ho.out 31 9 0 #[] [] rfl rfl (by decide); refine wpList_row rfl _ _ 26 rfl 31 iP (.agg #[.int .i64 0, .int .i64 0, .int .i64 0, .int .i64 0, .int .i64 0, .int .u8 0, .int .u8 0, .int .u8 0, .int .u8 0]) 9 48 Try.underlying26 hIP.out.1 hIP.out.2.1 hIP.out.2.2.1 hIP.out.2.2.2 (by rfl) (by decide) hl 0 _ 0 0 [] rfl rfl A i c (ps.flatMap Pt.cells) rfl (by rw [flat_len pcells_len, hpl.out]) (row_cells hl 1 rfl) (cells_ne pcells_len (by decide) (row_cells hl 1 rfl) i hpl.out) (pts_one ps) (by have := hl50.out; unfold maxLen; omega) (by have := hl50.out; omega) ?_; intro A4 c4 w4 ho4; rw [Nat.zero_add, List.nil_append] at ho4; have ho5 := Hidd.mk ho4; clear hl ho ho4)
          | (go_at_call 15; have hq := ho5.out; clear hq; refine (new_own nd _ _ _ ps _ (row_cells ho5.out 0 rfl) hpl.out (by have := hl50.out; omega)).mono ?_; rintro e w5 ⟨bL, ML, rfl, hn5⟩; have ho6 := Hidd.mk (ho5.out.made hn5); clear ho5 hn5)
          | (go_at_call 16; have hq := ho6.out; clear hq; refine (watch_own nd _ _ _ ps 2 ho6.out rfl (by have := hl50.out; omega)).mono ?_; rintro e w6 ⟨bR, MR, rfl, hn6⟩; have ho7 := Hidd.mk hn6; clear ho6 hn6))
        have ho8 : Hidd (Own w (fun _ => False) _ [Res.pack (monL bL nd i ML none 0 0 ps (List.replicate i 0) (List.replicate i 0) []), Res.pack (monR bR nd i MR none 0 0 ps (List.replicate i 0) (List.replicate i 0) [])]) := ⟨ho7.out.reorder [0, 2] rfl (by decide)⟩
        have hrg : Hidd (Rng 0 i (List.replicate i 0) (List.replicate i 0)) := ⟨by simp, by simp, by intro l hl; obtain rfl := (List.mem_replicate.1 hl).2; decide, by intro l hl; obtain rfl := (List.mem_replicate.1 hl).2; decide⟩
        clear ho7
        go_loopg [14] (min len2 100) (fun g v14 wx => ∃ (j : Nat) (OA OB : Option Addr) (on oc od : Nat) (last again : List Int) (out : List Rec5), j + g = min len2 100 ∧ v14 = .int .i64 j ∧ on ≤ 4 ∧ Hidd (out.length = on) ∧ Hidd (Rng j i last again) ∧
          Hidd (Own w (fun _ => False) wx [Res.pack (monL bL nd i ML OA on oc ps last again out), Res.pack (monR bR nd i MR OB on od ps last again out)]))
        case atStart => exact ⟨0, none, none, 0, 0, 0, _, _, [], by omega, rfl, by decide, ⟨rfl⟩, hrg, ho8⟩
        case round =>
          clear ho8 hrg
          obtain ⟨j, OA, OB, on, oc, od, last, again, out, hg, rfl, hon, hol, hrg, ho⟩ := hrel
          cases gk with
          | succ g =>
            -- {B
            have hj : j < len2 := by omega
            have hj100 : j < 100 := by omega
            have hgj : j + 1 + g = min len2 100 := by omega
            have dj : decide (j < len2) = true := decide_eq_true hj
            have dk : decide ((j : Int) < 100) = true := decide_eq_true (by omega)
            have bj0 : (0 : Int) ≤ (j : Int) := by omega
            have bj1 : (j : Int) < (len2 : Int) := by omega
            obtain ⟨x, hx⟩ : ∃ x, acs[j]? = some x := ⟨_, List.getElem?_eq_getElem (by rw [hal.out]; exact hj)⟩
            obtain ⟨hok, a, rfl, y0, y1, y2, y3⟩ := (hA.out.below (ho.out.below fun _ => id)).2 j x hx
            obtain ⟨sl, round, part, kind⟩ := x
            simp only at y0 y1 y2 y3
            obtain ⟨hro, hpa⟩ := hok
            simp only at hro hpa
            replace hro := Hidd.mk hro
            replace hpa := Hidd.mk hpa
            have hab : (a.add (j * 4)).block < wr.heap.size := World.block_lt_of_cell? wr _ y0
            have hoA := Hidd.mk (ho.out.alloc (.cells #[.bool sl, .int .u32 round, .int .i64 part, .int .i64 kind] 38 (0, 0)))
            clear hx hg hj hj100
            cases sl with
            | true =>
              go_upto_region 24 with fail
              clear ho y0 y1 y2 y3
              generalize World.alloc wr _ = wa at hoA ⊢
              clear hab
              go_wp2_with (first
                | (go_at_call 18; refine (seal_own 1 hoA.out rfl).mono ?_; rintro e w5 ⟨rfl, ho5⟩; have ho5 := Hidd.mk ho5; clear hoA)
                | (go_at_call 19; refine (sealR_own 3 ho5.out rfl).mono ?_; rintro e w6 ⟨rfl, ho6⟩; have ho6 := Hidd.mk ho6; clear ho5)
                | (go_at_call 17; have hq := ho6.out; clear hq; refine (sameRecs_any _ _ on _ _ out _ (recs_close hol.out (row_cells ho6.out 1 rfl)) (recs_close hol.out (row_cells ho6.out 0 rfl)) (by omega)).mono ?_; rintro e w7 ⟨rfl, hb7⟩; have ho7 := Hidd.mk (ho6.out.ext hb7); clear ho6 hb7))
              go_roundg g
              case rel => exact ⟨j + 1, none, none, 0, 0, 0, last, again, [], hgj, by go_num, by decide, ⟨rfl⟩, ⟨rng_next hrg.out⟩, ⟨ho7.out.reorder [3, 4] rfl (by decide)⟩⟩
              case measure => omega
            | false =>
              obtain ⟨kf, hkf, hk1, hk2⟩ := u64_mod kind 256 (by decide)
              rw [show ((256 : Nat) : Int) = 256 from rfl] at hk1 hk2
              have hk3 := u8_id kf hkf
              have hk4 : (kf : Int) % 256 = kf := by omega
              replace hkf := Hidd.mk hkf
              obtain ⟨z0, z1, z2, z3⟩ := cells4 hoA.out 0 rfl
              by_cases hbad : part < 0 ∨ (i : Int) ≤ part ∨ 3 < kf ∨ 1048576 ≤ round
              · replace hbad := Hidd.mk hbad
                go_upto_region 26 with fail
                clear ho y0 y1 y2 y3
                obtain ⟨c0, c1, c2, c3⟩ := cells4 hoA.out 0 rfl
                clear z0 z1 z2 z3
                obtain ⟨b9, hb9⟩ : ∃ b9, b9 = wr.heap.size := ⟨_, rfl⟩
                rw [← hb9] at hoA c0 c1 c2 c3 ⊢
                generalize World.alloc wr _ = wa at hoA c0 c1 c2 c3 ⊢
                clear hab hb9
                go_wp2_with (first
                  | (go_at_call 20; refine (report_bad 1 hoA.out rfl round kf part hbad.out).mono ?_; rintro e w5 ⟨rfl, rfl⟩)
                  | (go_at_call 21; refine (reportR_bad 2 hoA.out rfl round kf part hbad.out).mono ?_; rintro e w6 ⟨rfl, hb6⟩; have ho6 := Hidd.mk (hoA.out.ext hb6); clear hoA hb6)
                  | (go_at_call 22; have hq := ho6.out; clear hq; refine (read_two _).mono ?_; rintro e w7 ⟨rfl, hb7⟩; have ho7 := Hidd.mk (ho6.out.ext hb7); clear ho6 hb7))
                go_roundg g
                case rel => exact ⟨j + 1, OA, OB, on, oc, od, last, again, out, hgj, by go_num, hon, hol, ⟨rng_next hrg.out⟩, ⟨ho7.out.reorder [1, 2] rfl (by decide)⟩⟩
                case measure => omega
              · obtain ⟨p, rfl⟩ : ∃ p : Nat, part = p := ⟨part.toNat, by omega⟩
                have hp : p < i := by omega
                have hk4' : kf < 4 := by omega
                have hr1 : round < 1048576 := by omega
                obtain ⟨x, hx, hxk⟩ := hget.out p hp
                obtain ⟨a1, ha1⟩ := hxk kf hk4'
                obtain ⟨l1, hl1⟩ : ∃ l1, last[p]? = some l1 := ⟨_, List.getElem?_eq_getElem (by rw [hrg.out.1]; exact hp)⟩
                obtain ⟨g1, hg1⟩ : ∃ g1, again[p]? = some g1 := ⟨_, List.getElem?_eq_getElem (by rw [hrg.out.2.1]; exact hp)⟩
                obtain ⟨a2, l2, g2, hrs⟩ : ∃ a2 l2 g2, repS a1 l1 g1 round = (a2, l2, g2) := ⟨_, _, _, rfl⟩
                have hlb := Hidd.mk (hrg.out.2.2.1 l1 (List.mem_of_getElem? hl1))
                have hgb := Hidd.mk (hrg.out.2.2.2 g1 (List.mem_of_getElem? hg1))
                have hrg2 := Hidd.mk (rng_set hrg.out hl1 hg1 hr1 hrs)
                have hj1 : Hidd (j ≤ 100) := ⟨by omega⟩
                replace hp := Hidd.mk hp
                replace hk4' := Hidd.mk hk4'
                replace hr1 := Hidd.mk hr1
                replace hx := Hidd.mk hx
                replace ha1 := Hidd.mk ha1
                replace hl1 := Hidd.mk hl1
                replace hg1 := Hidd.mk hg1
                replace hrs := Hidd.mk hrs
                clear hxk hbad
                go_upto_region 26 with fail
                clear ho y0 y1 y2 y3
                obtain ⟨c0, c1, c2, c3⟩ := cells4 hoA.out 0 rfl
                clear z0 z1 z2 z3
                obtain ⟨b9, hb9⟩ : ∃ b9, b9 = wr.heap.size := ⟨_, rfl⟩
                rw [← hb9] at hoA c0 c1 c2 c3 ⊢
                generalize World.alloc wr _ = wa at hoA c0 c1 c2 c3 ⊢
                clear hab hb9
                go_wp2_with (first
                  | (go_at_call 20; refine (report_own nd 1 hoA.out rfl round kf p hp.out hk4'.out hr1.out (by have := hl50.out; omega) (by have := hnd.out; omega) x hx.out a1 ha1.out l1 g1 hl1.out hg1.out hgb.out.1 (by have := hgb.out.2; have := hj1.out; omega) hlb.out.1 hlb.out.2 (by omega) a2 l2 g2 hrs.out).mono ?_; rintro e w5 ⟨OA5, oc5, rfl, ho5⟩; replace ho5 := Hidd.mk ho5; obtain ⟨d0, d1, d2, d3⟩ := cells4 ho5.out 0 rfl; clear hoA c0 c1 c2 c3)
                  | (go_at_call 21; have hq := ho5.out; clear hq; refine (reportR_own nd 2 ho5.out rfl round kf p hp.out hk4'.out hr1.out (by have := hl50.out; omega) (by have := hnd.out; omega) x hx.out a1 ha1.out l1 g1 hl1.out hg1.out hgb.out.1 (by have := hgb.out.2; have := hj1.out; omega) hlb.out.1 hlb.out.2 (by omega) a2 l2 g2 hrs.out).mono ?_; rintro e w6 ⟨OB6, od6, rfl, ho6⟩; replace ho6 := Hidd.mk ho6; clear ho5)
                  | (go_at_call 22; have hq := ho6.out; clear hq; refine (read_none _).mono ?_; rintro e w7 ⟨rfl, hb7⟩; have ho7 := Hidd.mk (ho6.out.ext hb7); clear ho6 hb7))
                go_roundg g
                case rel => exact ⟨j + 1, OA5, OB6, if on < 4 then on + 1 else on, oc5, od6, _, _, _, hgj, by go_num, by split <;> omega, ⟨by split <;> simp [hol.out]⟩, hrg2, ⟨ho7.out.reorder [1, 2] rfl (by decide)⟩⟩
                case measure => omega
            -- B}
          | zero =>
            have hway : decide (j < len2) = false ∨ (decide (j < len2) = true ∧ decide ((j : Int) < 100) = false) := by
              by_cases h : j < len2
              · exact .inr ⟨decide_eq_true h, decide_eq_false (by omega)⟩
              · exact .inl (decide_eq_false h)
            clear hg
            rcases hway with dj | ⟨dj, dk⟩
            all_goals go_wp2_with (first
              | (go_at_call 18; refine (seal_own 0 ho.out rfl).mono ?_; rintro e w5 ⟨rfl, ho5⟩; have ho5 := Hidd.mk ho5; clear ho)
              | (go_at_call 19; refine (sealR_own 2 ho5.out rfl).mono ?_; rintro e w6 ⟨rfl, ho6⟩; have ho6 := Hidd.mk ho6; clear ho5)
              | (go_at_call 17; have hq := ho6.out; clear hq; refine (sameRecs_any _ _ on _ _ out _ (recs_close hol.out (row_cells ho6.out 1 rfl)) (recs_close hol.out (row_cells ho6.out 0 rfl)) (by omega)).mono ?_; rintro e w7 ⟨rfl, hb7⟩; have ho7 := Hidd.mk (ho6.out.ext hb7); clear ho6 hb7))
            all_goals (try rw [Exit.noGoto_ret])
            all_goals go_ret
            all_goals exact ⟨rfl, ho7.out.below fun _ => id⟩
end Go.Proofs.Ytpiahnecpbalhaa
