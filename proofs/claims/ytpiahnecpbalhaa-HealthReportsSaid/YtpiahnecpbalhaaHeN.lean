/- The reference's Watch: a new monitor over a row of partitions; what comes in of HealthReports. -/
import Derived.Test.YtpiahnecpbalhaaHeM
namespace Go.Proofs.Ytpiahnecpbalhaa
open Go.RowKit

set_option maxRecDepth 100000
set_option maxHeartbeats 8000000
theorem watch_own {w w0 : World} {S : Nat → Prop} {L : List Res} (node : Int) (A : Option Addr) (n c : Nat) (ps : List Pt) (k : Nat) (hO : Own w0 S w L) (hk : L[k]? = some (row 31 9 (.slice A n c) n (ps.flatMap Pt.cells))) (hn : n ≤ 1000) :
    Calls Try.prog 16 #[.int .i64 node, .slice A n c] w fun e w' => ∃ b M, e = .returned (.pointer (some ⟨b, 0, none⟩)) ∧ Own w0 S w' (L.set k (Res.pack (monR b node n M none 0 0 ps (List.replicate n 0) (List.replicate n 0) []))) := by
  have hm2 : ∀ W : World, (Instr.makeSlice 51 (.int .i64 (n : Int)) (.int .i64 (n : Int))).run Try.prog W = _ := run_make_row' 51 3 (.int .i64 0) 8 (by rfl) info_int rfl .i64 .i64 n (by omega) (by omega)
  have hf : (row 31 9 (.slice A n c) n (ps.flatMap Pt.cells)).foot = (row 31 9 (.slice A n c) n (ps.flatMap Pt.cells)).foot := rfl
  obtain ⟨F, hF⟩ : ∃ F, F = (row 31 9 (.slice A n c) n (ps.flatMap Pt.cells)).foot := ⟨_, rfl⟩
  have ho : Hidd (Own w F w [row 31 9 (.slice A n c) n (ps.flatMap Pt.cells)]) := ⟨by rw [hF]; exact Own.one (hO.get k hk)⟩
  replace hF := Hidd.mk hF
  have hO2 := Hidd.mk hO
  have hk2 := Hidd.mk hk
  clear hf hO hk
  go_enter Try.func16, Try.ntmps16
  go_wp2
  obtain ⟨W0, hW0⟩ : ∃ zz, zz = World.drew w := ⟨_, rfl⟩
  refine wp_region_tree (.two [0, 1, 2, 5, 3, 6] 4 [true] (.one [] 7 [false, true] (.one [8] 9 [false, false, false] (.leaf [10]))) 7 [true] (.one [] 4 [false, true] (.one [8] 9 [false, false, false] (.leaf [10])))) (by kernel_rfl) (by kernel_rfl) ?_
  rw [show ({ w with drawn := w.drawn + 1 } : World) = W0 from hW0.symm]
  replace hW0 := Hidd.mk hW0
  simp only [Tr.map, List.map_cons, List.map_nil, List.getD_cons_succ, List.getD_cons_zero]
  replace ho := Hidd.mk (show Own w F W0 _ by rw [hW0.out]; exact ho.out.drew)
  clear hW0
  refine TrW.two (fun _ => True) trivial ?_
  repeat (first | (refine StQ.skip (by rfl) ?_; simp only [Act.put, List.setIfInBounds_toArray, List.set_cons_zero, List.set_cons_succ]) | (refine StQ.go' (by rfl) (Exists.intro ?_ (And.intro (fun w' hS => ?_) ?_)); rotate_left; (focus (skip; go_simp; try with_reducible rfl)); simp only [Act.put, List.setIfInBounds_toArray, List.set_cons_zero, List.set_cons_succ]))
  refine StQ.nil ?_
  refine ⟨?_, ?_⟩
  all_goals repeat' (first
    | (refine TrW.one (fun _ => True) trivial (StQ.nil ?_))
    | (refine TrW.one (fun _ => True) trivial ?_; repeat (refine StQ.go' (by rfl) (Exists.intro ?_ (And.intro (fun w' hS => ?_) ?_)); rotate_left; (focus (go_simp; try with_reducible rfl)); simp only [Act.put, List.setIfInBounds_toArray, List.set_cons_zero, List.set_cons_succ]); refine StQ.nil ?_)
    | (refine TrW.leaf (fun _ => True) trivial ?_; repeat (refine StQ.go' (by rfl) (Exists.intro ?_ (And.intro (fun w' hS => ?_) ?_)); rotate_left; (focus (go_simp; try with_reducible rfl)); simp only [Act.put, List.setIfInBounds_toArray, List.set_cons_zero, List.set_cons_succ]); refine StQ.nil ?_)
    | (refine TrO.go (by rfl) (fun K hK => ?_); first
        | (go_simp; refine hK.out _ (World.alloc _ (.cells (madeCells #[.int .i64 0] n) 3 (0, 0))) (.inr (by simp [oblig])) ?_; clear hK K; have ho1 := row_lit ho.out 3 1 n _ _ (made_nums .i64 n) (made_size _ _) (by unfold maxLen; omega); clear ho; generalize World.alloc _ _ = W1 at ho1 ⊢; have ho := Hidd.mk ho1; clear ho1)
        | (go_simp; refine hK.out _ _ (.inr (by simp [oblig])) ?_; clear hK K; generalize hW1 : World.alloc _ _ = W1; have ho1 : Own w F W1 _ := (by rw [← hW1]; exact ho.out.alloc _); clear ho hW1; have ho := Hidd.mk ho1; clear ho1)))
  all_goals refine Calm.normal ?_
  all_goals go_wp2
  all_goals go_ret
  all_goals have ho1 := row_nil ho.out 54 5
  all_goals rw [hF.out] at ho1
  all_goals first
    | exact ⟨_, ⟨_, _, _, _, _, _⟩, rfl, hO2.out.call k hk2.out (Own.pack_in (by rw [List.append_nil]; exact ho1.reorder (M := monR _ node n ⟨_, _, _, _, _, _⟩ none 0 0 ps _ _ []) [1, 4, 3, 2, 0] rfl (by decide)))⟩
    | exact ⟨_, ⟨_, _, _, _, _, _⟩, rfl, hO2.out.call k hk2.out (Own.pack_in (by rw [List.append_nil]; exact ho1.reorder (M := monR _ node n ⟨_, _, _, _, _, _⟩ none 0 0 ps _ _ []) [1, 4, 2, 3, 0] rfl (by decide)))⟩

/-- Four actions as they come in. -/
def QuadsAt (w : World) (A : Option Addr) (n : Nat) (rs : List (Nat × Nat × Nat × Nat)) : Prop :=
  rs.length = n ∧ ∀ (i : Nat) x, rs[i]? = some x → ∃ a, A = some a ∧ w.cell? (a.add (i * 4)) = some (.int .u8 (x.1 : Int)) ∧ w.cell? ⟨(a.add (i * 4)).block, (a.add (i * 4)).off + 1, none⟩ = some (.int .u8 (x.2.1 : Int)) ∧
    w.cell? ⟨(a.add (i * 4)).block, (a.add (i * 4)).off + 2, none⟩ = some (.int .u8 (x.2.2.1 : Int)) ∧ w.cell? ⟨(a.add (i * 4)).block, (a.add (i * 4)).off + 3, none⟩ = some (.int .u8 (x.2.2.2 : Int))
theorem QuadsAt.below {w w' : World} {A : Option Addr} {n : Nat} {rs : List (Nat × Nat × Nat × Nat)} (h : QuadsAt w A n rs) (hB : Below w.heap.size w w') : QuadsAt w' A n rs :=
  ⟨h.1, fun i x hi => by
    obtain ⟨a, e, h0, h1, h2, h3⟩ := h.2 i x hi
    exact ⟨a, e, vkeep hB h0, vkeep hB h1, vkeep hB h2, vkeep hB h3⟩⟩
theorem quads_of {w : World} {b : Nat} {A : Option Addr} {len cap : Nat} {rows : List (List Value)} (h : Rows' w b [.int .u8, .int .u8, .int .u8, .int .u8] A len cap rows) : ∃ rs, QuadsAt w A len rs := by
  have hr : ∀ r ∈ rows, ∃ q : Nat × Nat × Nat × Nat, r = [.int .u8 (q.1 : Int), .int .u8 (q.2.1 : Int), .int .u8 (q.2.2.1 : Int), .int .u8 (q.2.2.2 : Int)] := fun r hr => by
    have hl := h.each r hr
    have hf := h.fits r hr
    obtain ⟨x0, r0, rfl, e0⟩ := arr_cons hl
    obtain ⟨x1, r1, rfl, e1⟩ := arr_cons e0
    obtain ⟨x2, r2, rfl, e2⟩ := arr_cons e1
    obtain ⟨x3, r3, rfl, e3⟩ := arr_cons e2
    obtain rfl := List.length_eq_zero_iff.1 e3
    obtain ⟨y0, rfl, h0⟩ := (hf 0 _ _ rfl rfl).int_inv
    obtain ⟨y1, rfl, h1⟩ := (hf 1 _ _ rfl rfl).int_inv
    obtain ⟨y2, rfl, h2⟩ := (hf 2 _ _ rfl rfl).int_inv
    obtain ⟨y3, rfl, h3⟩ := (hf 3 _ _ rfl rfl).int_inv
    obtain ⟨n0, rfl, _⟩ := wf8 h0
    obtain ⟨n1, rfl, _⟩ := wf8 h1
    obtain ⟨n2, rfl, _⟩ := wf8 h2
    obtain ⟨n3, rfl, _⟩ := wf8 h3
    exact ⟨(n0, n1, n2, n3), rfl⟩
  obtain ⟨qs, hql, hq⟩ := list_of rows hr
  refine ⟨qs, by rw [hql]; exact h.n, fun i x hi => ?_⟩
  have hlt : i < rows.length := by rw [← hql]; exact (List.getElem?_eq_some_iff.1 hi).1
  have e1 := hq i _ x (List.getElem?_eq_getElem hlt) hi
  have hri : rows[i]? = some rows[i] := List.getElem?_eq_getElem hlt
  rw [e1] at hri
  obtain ⟨a, ha, h0⟩ := h.cell i 0 _ _ hri rfl
  obtain ⟨a1, e1, h1⟩ := h.cell i 1 _ _ hri rfl
  obtain ⟨a2, e2, h2⟩ := h.cell i 2 _ _ hri rfl
  obtain ⟨a3, e3, h3⟩ := h.cell i 3 _ _ hri rfl
  subst ha
  injection e1 with e1
  injection e2 with e2
  injection e3 with e3
  subst e1 e2 e3
  rw [← add_add, addr_lit _ _ (by decide)] at h1 h2 h3
  exact ⟨a, rfl, h0, h1, h2, h3⟩
/-- A call as it comes in. -/
structure Act4 where
  seal_ : Bool
  round : Nat
  part : Int
  kind : Int
def Act4.cells (x : Act4) : List Value := [.bool x.seal_, .int .u32 x.round, .int .i64 x.part, .int .i64 x.kind]
structure Act4.Ok (x : Act4) : Prop where
  round : x.round < 4294967296
  part : -9223372036854775808 ≤ x.part ∧ x.part ≤ 9223372036854775807
def ActsAt (w : World) (A : Option Addr) (n : Nat) (rs : List Act4) : Prop :=
  rs.length = n ∧ ∀ (i : Nat) x, rs[i]? = some x → x.Ok ∧ ∃ a, A = some a ∧ w.cell? (a.add (i * 4)) = some (.bool x.seal_) ∧ w.cell? ⟨(a.add (i * 4)).block, (a.add (i * 4)).off + 1, none⟩ = some (.int .u32 (x.round : Int)) ∧
    w.cell? ⟨(a.add (i * 4)).block, (a.add (i * 4)).off + 2, none⟩ = some (.int .i64 x.part) ∧ w.cell? ⟨(a.add (i * 4)).block, (a.add (i * 4)).off + 3, none⟩ = some (.int .i64 x.kind)
theorem ActsAt.below {w w' : World} {A : Option Addr} {n : Nat} {rs : List Act4} (h : ActsAt w A n rs) (hB : Below w.heap.size w w') : ActsAt w' A n rs :=
  ⟨h.1, fun i x hi => by
    obtain ⟨ok, a, e, h0, h1, h2, h3⟩ := h.2 i x hi
    exact ⟨ok, a, e, vkeep hB h0, vkeep hB h1, vkeep hB h2, vkeep hB h3⟩⟩
theorem acts_of {w : World} {b : Nat} {A : Option Addr} {len cap : Nat} {rows : List (List Value)} (h : Rows' w b [.bool, .int .u32, .int .i64, .int .i64] A len cap rows) : ∃ rs, ActsAt w A len rs := by
  have hr : ∀ r ∈ rows, ∃ q : Act4, r = q.cells ∧ q.Ok := fun r hr => by
    have hl := h.each r hr
    have hf := h.fits r hr
    obtain ⟨x0, r0, rfl, e0⟩ := arr_cons hl
    obtain ⟨x1, r1, rfl, e1⟩ := arr_cons e0
    obtain ⟨x2, r2, rfl, e2⟩ := arr_cons e1
    obtain ⟨x3, r3, rfl, e3⟩ := arr_cons e2
    obtain rfl := List.length_eq_zero_iff.1 e3
    obtain ⟨y0, rfl⟩ := (hf 0 _ _ rfl rfl).bool_inv
    obtain ⟨y1, rfl, h1⟩ := (hf 1 _ _ rfl rfl).int_inv
    obtain ⟨y2, rfl, h2⟩ := (hf 2 _ _ rfl rfl).int_inv
    obtain ⟨y3, rfl, h3⟩ := (hf 3 _ _ rfl rfl).int_inv
    obtain ⟨n1, rfl, g1⟩ := wf32 h1
    exact ⟨⟨y0, n1, y2, y3⟩, rfl, g1, wf64 h2⟩
  obtain ⟨qs, hql, hq⟩ := list_of rows hr
  refine ⟨qs, by rw [hql]; exact h.n, fun i x hi => ?_⟩
  have hlt : i < rows.length := by rw [← hql]; exact (List.getElem?_eq_some_iff.1 hi).1
  obtain ⟨e1, ok⟩ := hq i _ x (List.getElem?_eq_getElem hlt) hi
  have hri : rows[i]? = some rows[i] := List.getElem?_eq_getElem hlt
  rw [e1] at hri
  obtain ⟨a, ha, h0⟩ := h.cell i 0 _ _ hri rfl
  obtain ⟨a1, e1, h1⟩ := h.cell i 1 _ _ hri rfl
  obtain ⟨a2, e2, h2⟩ := h.cell i 2 _ _ hri rfl
  obtain ⟨a3, e3, h3⟩ := h.cell i 3 _ _ hri rfl
  subst ha
  injection e1 with e1
  injection e2 with e2
  injection e3 with e3
  subst e1 e2 e3
  rw [← add_add, addr_lit _ _ (by decide)] at h1 h2 h3
  exact ⟨ok, a, rfl, h0, h1, h2, h3⟩
end Go.Proofs.Ytpiahnecpbalhaa
