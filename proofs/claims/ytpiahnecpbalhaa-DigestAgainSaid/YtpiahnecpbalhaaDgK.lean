/- DigestAgain walked. -/
import Derived.Test.YtpiahnecpbalhaaDgG
import Derived.Test.YtpiahnecpbalhaaTree
import Derived.Deep.DeepCutAuto
namespace Go.Proofs.Ytpiahnecpbalhaa
open Go.RowKit Go.Lib

theorem wp_store_own {w0 w : World} {S : Nat → Prop} {L : List Res} {o : Oper} {a : Act} {K : Act → World → Prop} {Q : Exit → Act → World → Prop} (hO : Own w0 S w L) (k : Nat) {g : Nat} {t : TypeId} {old cells : Array Value} (hk : L[k]? = some (blk g (.cells old t (0, 0))))
    (ty : TypeId) (x y : Operand) (ho : o.op = .store ty x y) (hx : a.eval x = .pointer (some ⟨g, 0, none⟩)) (hy : a.eval y = .agg cells) (hi : (Try.prog.info? ty).map (·.size) = some cells.size) (hold : old.size = cells.size) (h1 : cells.all (·.oneCell') = true)
    (h : ∀ w', Own w0 S w' (L.set k (blk g (.cells cells t (0, 0)))) → K (a.put o.dst undef) w') : o.wp Try.prog a w K Q :=
  wp_store_row ty x y ho g cells hx hy t old (hO.get k hk) hi hold h1 (h _ (hO.step k hk (blk g (.cells cells t (0, 0))) (Kept.setRow _ _ _) (setRow_heap _ g _ _ t _ (hO.get k hk)) fun _ h => .inl h))
theorem sha_one (bs : List Int) : (nums .u8 (sha bs)).toArray.all (·.oneCell') = true := by rw [Array.all_eq_true_iff_forall_mem]; intro v hv; exact nums_one _ _ v (by simpa using hv)
theorem sha_size (bs : List Int) : (nums .u8 (sha bs)).toArray.size = 32 := by simp [nums_length, sha_len]
def shaV (bs : List Int) : Array Value := (nums .u8 (sha bs)).toArray
theorem shaV_info (bs : List Int) : (Try.prog.info? 69).map (·.size) = some (shaV bs).size := by rw [shaV, sha_size]; exact info_as
theorem shaV_hold (bs : List Int) : (#[.int .u8 0, .int .u8 0, .int .u8 0, .int .u8 0, .int .u8 0, .int .u8 0, .int .u8 0, .int .u8 0, .int .u8 0, .int .u8 0, .int .u8 0, .int .u8 0, .int .u8 0, .int .u8 0, .int .u8 0, .int .u8 0, .int .u8 0, .int .u8 0, .int .u8 0, .int .u8 0, .int .u8 0, .int .u8 0, .int .u8 0, .int .u8 0, .int .u8 0, .int .u8 0, .int .u8 0, .int .u8 0, .int .u8 0, .int .u8 0, .int .u8 0, .int .u8 0] : Array Value).size = (shaV bs).size := by rw [shaV, sha_size]; rfl
theorem load_kept {w0 w w' : World} {S : Nat → Prop} {L : List Res} (hO : Own w0 S w L) (hc : Kept (fun _ => False) w w') (k : Nat) {g : Nat} {bs : List Int} (hk : L[k]? = some (blk g (.cells (shaV bs) 69 (0, 0)))) :
    (Instr.loadAt 69 (.pointer (some ⟨g, 0, none⟩))).run Try.prog w' = .ok (.agg (nums .u8 (sha bs)).toArray) w' := by
  have hg' : w'.heap[g]? = some (.cells (shaV bs) 69 (0, 0)) := by rw [hc.block g (hO.lt k hk) id]; exact hO.get k hk
  simp only [Instr.loadAt, Instr.sureAddr, Sem.run_bind, Sem.run_pure, Result.andThen_ok, run_loadVar_row w' g 69 69 (shaV bs) (0, 0) _ hg' Try.underlying69 rfl (shaV_info bs)]
  rfl
theorem StQ.loadA {ops : Array Oper} {S : World → Prop} {Lq : Act → Prop} {a : Act} {o : Oper} {rest : List Oper} {bs : List Int} (x : Operand) (ho : o.op = .load 69 x) {g : Nat} (hx : a.eval x = .pointer (some ⟨g, 0, none⟩)) (hw : Region.wanted o (yielded ops a.tmps) = true)
    (hl : ∀ w', S w' → (Instr.loadAt 69 (.pointer (some ⟨g, 0, none⟩))).run Try.prog w' = .ok (.agg (nums .u8 (sha bs)).toArray) w') (h : StQ Try.prog ops S Lq rest (a.put o.dst (.agg (nums .u8 (sha bs)).toArray))) : StQ Try.prog ops S Lq (o :: rest) a := by
  refine .go _ hw (fun w hS => ?_) h
  unfold execOp
  simp only [ho, hx, Sem.run_bind, hl w hS, Result.andThen_ok]
  rfl
theorem u8_inj9 {x y : Int} (hx : (Lit.int .u8 x).wf = true) (hy : (Lit.int .u8 y).wf = true) (h : UInt8.ofNat x.toNat = UInt8.ofNat y.toNat) : x = y := by
  have hx' : 0 ≤ x ∧ x ≤ 255 := by simp [Lit.wf, IntKind.min, IntKind.max, IntKind.signed, IntKind.bits] at hx; omega
  have hy' : 0 ≤ y ∧ y ≤ 255 := by simp [Lit.wf, IntKind.min, IntKind.max, IntKind.signed, IntKind.bits] at hy; omega
  have := congrArg UInt8.toNat h
  simp at this
  omega
theorem map_inj9 : ∀ {xs ys : List Int}, (∀ n ∈ xs, (Lit.int .u8 n).wf = true) → (∀ n ∈ ys, (Lit.int .u8 n).wf = true) → (xs.map fun n => UInt8.ofNat n.toNat) = (ys.map fun n => UInt8.ofNat n.toNat) → xs = ys
  | [], [], _, _, _ => rfl
  | [], y :: ys, _, _, h => by simp at h
  | x :: xs, [], _, _, h => by simp at h
  | x :: xs, y :: ys, hx, hy, h => by
    simp only [List.map_cons, List.cons.injEq] at h
    rw [u8_inj9 (hx x (List.mem_cons_self ..)) (hy y (List.mem_cons_self ..)) h.1, map_inj9 (fun z hz => hx z (List.mem_cons_of_mem _ hz)) (fun z hz => hy z (List.mem_cons_of_mem _ hz)) h.2]
theorem str_inj9 {xs ys : List Int} (hx : ∀ n ∈ xs, (Lit.int .u8 n).wf = true) (hy : ∀ n ∈ ys, (Lit.int .u8 n).wf = true) (h : strOfNums xs = strOfNums ys) : xs = ys := by
  refine map_inj9 hx hy ?_
  have := congrArg (fun s => s.data.toList) h
  simpa [strOfNums] using this
set_option maxRecDepth 100000
set_option maxHeartbeats 16000000
theorem digestAgain_walk (a0 : Option Addr) (len0 cap0 : Nat) (z0 : List Int) (a1 : Option Addr) (len1 cap1 : Nat) (z1 : List Int) (w : World) (h0 : IsRow .u8 w a0 len0 cap0 z0) (_ : len0 * 1 ≤ 140737488351232) (h1 : IsRow .u8 w a1 len1 cap1 z1) (_ : len1 * 1 ≤ 140737488351232) :
    Calls Try.prog 12 #[.slice a0 len0 cap0, .slice a1 len1 cap1] w fun e w' => e = .returned (.bool true) ∧ Below w.heap.size w w' := by
  obtain ⟨xs, hl, _, _, hA, hwx⟩ := h0.open_
  obtain ⟨ys, hl1, _, _, hA1, hwy⟩ := h1.open_
  have hinj := Hidd.mk (fun h : strOfNums xs = strOfNums ys => str_inj9 hwx hwy h)
  clear hwx hwy
  clear h0 h1
  replace hA := Hidd.mk hA
  replace hl := Hidd.mk hl
  replace hA1 := Hidd.mk hA1
  replace hl1 := Hidd.mk hl1
  by_cases hlong : 1000 < len0 ∨ 1000 < len1
  · have hcase : decide ((1000 : Int) < (len0 : Int)) = true ∨ (decide ((1000 : Int) < (len0 : Int)) = false ∧ decide ((1000 : Int) < (len1 : Int)) = true) := by
      by_cases h : 1000 < len0
      · exact .inl (decide_eq_true (by omega))
      · exact .inr ⟨decide_eq_false (by omega), decide_eq_true (by omega)⟩
    clear hlong
    rcases hcase with d1 | ⟨d1, d2⟩
    all_goals go_enter Try.func12, Try.ntmps12
    all_goals go_wp2_with (go_at_call 26; refine (awake18_any _).mono ?_; rintro e w1 ⟨rfl, hb1⟩)
    all_goals go_ret
    all_goals exact ⟨rfl, hb1⟩
  · have d1 : decide ((1000 : Int) < (len0 : Int)) = false := decide_eq_false (by omega)
    have d2 : decide ((1000 : Int) < (len1 : Int)) = false := decide_eq_false (by omega)
    have hb0 : len0 ≤ 1000 := by omega
    have hb1' : len1 ≤ 1000 := by omega
    clear hlong
    go_enter Try.func12, Try.ntmps12
    go_upto_region 6 with (first
      | (go_at_call 26; refine (awake18_any _).mono ?_; rintro e w1 ⟨rfl, hb1⟩; have ho1 := Hidd.mk ((Own.nil w (fun _ => False)).ext hb1); clear hb1)
      | (at_builtin; have hq := ho1.out; clear hq; have hl0 := row_lit ho1.out 5 1 0 #[] (nums .u8 []) rfl rfl (by decide); refine appb rfl _ _ rfl hl0 0 _ 0 0 [] rfl rfl a0 len0 cap0 xs rfl hl.out (hA.out.below (hl0.below fun _ => id)) (by omega) ?_; intro A2 c2 w2 ho2; rw [Nat.zero_add] at ho2 ⊢; rw [List.nil_append] at ho2; replace ho2 := Hidd.mk ho2; clear hl0 ho1)
      | (at_builtin; have hq := ho2.out; clear hq; refine appb rfl _ _ rfl ho2.out 0 A2 len0 c2 xs rfl rfl a1 len1 cap1 ys rfl hl1.out (hA1.out.below (ho2.out.below fun _ => id)) (by omega) ?_; intro A3 c3 w3 ho3; replace ho3 := Hidd.mk ho3; clear ho2))
    have hcp := (row_le ho3.out 0 rfl).1
    have hxy : Hidd ((xs ++ ys).length = len0 + len1) := ⟨by rw [List.length_append, hl.out, hl1.out]⟩
    go_cut [6, 7] (fun v6 v7 wx => ∃ p6 p7 : Nat, v6 = .pointer (some ⟨p6, 0, none⟩) ∧ v7 = .pointer (some ⟨p7, 0, none⟩) ∧ Hidd (Own w (fun _ => False) wx [blk p6 (.cells (shaV xs) 69 (0, 0)), blk p7 (.cells (shaV ys) 69 (0, 0))]))
    case first =>
      rcases (show w3.ownsRow 0 5 1 (.slice A3 (len0 + len1) c3) (len0 + len1) (nums .u8 (xs ++ ys)) from ho3.out.get 0 rfl).2 with ⟨e, e0⟩ | ⟨gb, cap', cur, e, _⟩
      · injection e with e e1 e2
        obtain ⟨z0, z1⟩ : len0 = 0 ∧ len1 = 0 := by omega
        subst z0 z1 e e2
        obtain rfl : xs = [] := List.eq_nil_of_length_eq_zero hl.out
        obtain rfl : ys = [] := List.eq_nil_of_length_eq_zero hl1.out
        have hcA : Hidd (∀ W, Cells W none (nums .u8 ([] ++ [] : List Int)) → Cells W none (nums .u8 [])) := ⟨fun W h => h⟩
        have hcB := hcA
        obtain ⟨W0, hW0⟩ : ∃ zz, zz = World.drew w3 := ⟨_, rfl⟩
        refine wp_region_tree (.three [0, 1, 5, 6, 2, 7, 3, 8] 4 [true] (.three [] 9 [false, false] (.two [] 10 [false, false, true] (.one [] 11 [false, false, false, true] (.one [] 12 [false, false, false, false, false] (.one [] 13 [false, false, false, false, false, false] (.leaf [])))) 11 [false, false, true] (.one [] 10 [false, false, false, true] (.one [] 12 [false, false, false, false, false] (.one [] 13 [false, false, false, false, false, false] (.leaf []))))) 10 [false, true] (.two [] 9 [false, false, false] (.one [] 11 [false, false, false, true] (.one [] 12 [false, false, false, false, false] (.one [] 13 [false, false, false, false, false, false] (.leaf [])))) 11 [false, false, true] (.one [] 9 [false, false, false, false] (.one [] 12 [false, false, false, false, false] (.one [] 13 [false, false, false, false, false, false] (.leaf []))))) 11 [false, true] (.two [] 9 [false, false, false] (.one [] 10 [false, false, false, true] (.one [] 12 [false, false, false, false, false] (.one [] 13 [false, false, false, false, false, false] (.leaf [])))) 10 [false, false, true] (.one [] 9 [false, false, false, false] (.one [] 12 [false, false, false, false, false] (.one [] 13 [false, false, false, false, false, false] (.leaf [])))))) 10 [true] (.two [] 4 [false, true] (.two [] 9 [false, false, false] (.one [] 11 [false, false, false, true] (.one [] 12 [false, false, false, false, false] (.one [] 13 [false, false, false, false, false, false] (.leaf [])))) 11 [false, false, true] (.one [] 9 [false, false, false, false] (.one [] 12 [false, false, false, false, false] (.one [] 13 [false, false, false, false, false, false] (.leaf []))))) 11 [false, true] (.one [] 4 [false, false, true] (.one [] 9 [false, false, false, false] (.one [] 12 [false, false, false, false, false] (.one [] 13 [false, false, false, false, false, false] (.leaf [])))))) 11 [true] (.two [] 4 [false, true] (.two [] 9 [false, false, false] (.one [] 10 [false, false, false, true] (.one [] 12 [false, false, false, false, false] (.one [] 13 [false, false, false, false, false, false] (.leaf [])))) 10 [false, false, true] (.one [] 9 [false, false, false, false] (.one [] 12 [false, false, false, false, false] (.one [] 13 [false, false, false, false, false, false] (.leaf []))))) 10 [false, true] (.one [] 4 [false, false, true] (.one [] 9 [false, false, false, false] (.one [] 12 [false, false, false, false, false] (.one [] 13 [false, false, false, false, false, false] (.leaf []))))))) (by kernel_rfl) (by kernel_rfl) ?_
        rw [show ({ w3 with drawn := w3.drawn + 1 } : World) = W0 from hW0.symm]
        replace hW0 := Hidd.mk hW0
        simp only [Tr.map, List.map_cons, List.map_nil, List.getD_cons_succ, List.getD_cons_zero]
        have ho := Hidd.mk (show Own w _ W0 _ by rw [hW0.out]; exact ho3.out.drew)
        clear hW0 ho3
        refine TrW.three (fun _ => True) trivial ?_
        repeat (first | (refine StQ.skip (by rfl) ?_; simp only [Act.put, List.setIfInBounds_toArray, List.set_cons_zero, List.set_cons_succ]) | (refine StQ.go' (by rfl) (Exists.intro ?_ (And.intro (fun w' hS => ?_) ?_)); rotate_left; (focus (skip; go_simp; try with_reducible rfl)); simp only [Act.put, List.setIfInBounds_toArray, List.set_cons_zero, List.set_cons_succ]))
        refine StQ.nil ?_
        refine ⟨?_, ?_, ?_⟩
        all_goals repeat' (first
          | (refine TrW.three (fun _ => True) trivial (StQ.nil ⟨?_, ?_, ?_⟩))
          | (refine TrW.two (fun _ => True) trivial (StQ.nil ⟨?_, ?_⟩))
          | (refine TrW.one (fun _ => True) trivial (StQ.nil ?_))
          | (refine TrW.leaf (fun _ => True) trivial (StQ.nil ?_); refine Calm.normal ?_)
          | (refine TrO.go (by rfl) (fun K hK => ?_); first
            | (refine wp_store_own ho.out 1 rfl 69 _ _ rfl rfl rfl (shaV_info _) (shaV_hold _) (sha_one _) ?_; intro W1 ho1; refine hK.out _ _ (.inr (by simp [oblig])) ?_; clear hK K ho; have ho := Hidd.mk ho1; clear ho1)
            | (refine wp_store_own ho.out 2 rfl 69 _ _ rfl rfl rfl (shaV_info _) (shaV_hold _) (sha_one _) ?_; intro W1 ho1; refine hK.out _ _ (.inr (by simp [oblig])) ?_; clear hK K ho; have ho := Hidd.mk ho1; clear ho1)
            | (go_simp; go_at_call 27; first
              | (with_reducible refine (digestOf_any _ _ 0 _ [] hl.out (by omega) (hcA.out _ (row_cells ho.out 0 rfl))).mono ?_; rintro e W1 ⟨rfl, hbA⟩; refine hK.out _ _ (.inr (by simp [oblig])) ?_; clear hK K; have ho1 := Hidd.mk (ho.out.ext hbA); clear ho hbA; have ho := ho1; clear ho1)
              | (with_reducible refine (digestOf_any _ _ 0 _ [] hl1.out (by omega) (hcB.out _ (row_cells ho.out 0 rfl))).mono ?_; rintro e W1 ⟨rfl, hbA⟩; refine hK.out _ _ (.inr (by simp [oblig])) ?_; clear hK K; have ho1 := Hidd.mk (ho.out.ext hbA); clear ho hbA; have ho := ho1; clear ho1))
            | (go_simp; have ho1 := (ho.out.alloc (.cells #[.int .u8 0, .int .u8 0, .int .u8 0, .int .u8 0, .int .u8 0, .int .u8 0, .int .u8 0, .int .u8 0, .int .u8 0, .int .u8 0, .int .u8 0, .int .u8 0, .int .u8 0, .int .u8 0, .int .u8 0, .int .u8 0, .int .u8 0, .int .u8 0, .int .u8 0, .int .u8 0, .int .u8 0, .int .u8 0, .int .u8 0, .int .u8 0, .int .u8 0, .int .u8 0, .int .u8 0, .int .u8 0, .int .u8 0, .int .u8 0, .int .u8 0, .int .u8 0] 69 (0, 0))).perm (List.Perm.swap _ _ _); refine hK.out _ _ (.inr (by simp [oblig])) ?_; clear hK K ho; generalize (World.heap _).size = pn at ho1 ⊢; generalize World.alloc _ _ = W1 at ho1 ⊢; have ho := Hidd.mk ho1; clear ho1)))
        all_goals first
          | (have hL := Hidd.mk (ho.out.reorder (M := [blk _ (.cells (shaV []) 69 (0, 0)), blk _ (.cells (shaV []) 69 (0, 0))]) [1, 2] rfl (by decide)); clear ho; first | go_meet | (go_wp2_with fail; go_meet); case rel => exact ⟨_, _, rfl, rfl, hL⟩)
          | (have hL := Hidd.mk (ho.out.reorder (M := [blk _ (.cells (shaV []) 69 (0, 0)), blk _ (.cells (shaV []) 69 (0, 0))]) [2, 1] rfl (by decide)); clear ho; first | go_meet | (go_wp2_with fail; go_meet); case rel => exact ⟨_, _, rfl, rfl, hL⟩)
      · injection e with e e1 e2
        subst e e2
        by_cases hc3 : c3 = len0
        · subst hc3
          have hz1 : len1 = 0 := by omega
          subst hz1
          obtain rfl : ys = [] := List.eq_nil_of_length_eq_zero hl1.out
          have hcA : Hidd (∀ W, Cells W (some ⟨gb, 0, none⟩) (nums .u8 (xs ++ [])) → Cells W (some ⟨gb, 0, none⟩) (nums .u8 xs)) := ⟨fun W h => by simpa using h⟩
          have hcB : Hidd (∀ W, Cells W (some ⟨gb, 0, none⟩) (nums .u8 (xs ++ [])) → Cells W (some ⟨gb, 0, none⟩) (nums .u8 [])) := ⟨fun W _ => Cells.nil _ _⟩
          have bz0 : (0 : Int) ≤ (c3 : Int) := by omega
          have bz4 : c3 - c3 = 0 := by omega
          obtain ⟨W0, hW0⟩ : ∃ zz, zz = World.drew w3 := ⟨_, rfl⟩
          refine wp_region_tree (.three [0, 1, 5, 6, 2, 7, 3, 8] 4 [true] (.three [] 9 [false, false] (.two [] 10 [false, false, true] (.one [] 11 [false, false, false, true] (.one [] 12 [false, false, false, false, false] (.one [] 13 [false, false, false, false, false, false] (.leaf [])))) 11 [false, false, true] (.one [] 10 [false, false, false, true] (.one [] 12 [false, false, false, false, false] (.one [] 13 [false, false, false, false, false, false] (.leaf []))))) 10 [false, true] (.two [] 9 [false, false, false] (.one [] 11 [false, false, false, true] (.one [] 12 [false, false, false, false, false] (.one [] 13 [false, false, false, false, false, false] (.leaf [])))) 11 [false, false, true] (.one [] 9 [false, false, false, false] (.one [] 12 [false, false, false, false, false] (.one [] 13 [false, false, false, false, false, false] (.leaf []))))) 11 [false, true] (.two [] 9 [false, false, false] (.one [] 10 [false, false, false, true] (.one [] 12 [false, false, false, false, false] (.one [] 13 [false, false, false, false, false, false] (.leaf [])))) 10 [false, false, true] (.one [] 9 [false, false, false, false] (.one [] 12 [false, false, false, false, false] (.one [] 13 [false, false, false, false, false, false] (.leaf [])))))) 10 [true] (.two [] 4 [false, true] (.two [] 9 [false, false, false] (.one [] 11 [false, false, false, true] (.one [] 12 [false, false, false, false, false] (.one [] 13 [false, false, false, false, false, false] (.leaf [])))) 11 [false, false, true] (.one [] 9 [false, false, false, false] (.one [] 12 [false, false, false, false, false] (.one [] 13 [false, false, false, false, false, false] (.leaf []))))) 11 [false, true] (.one [] 4 [false, false, true] (.one [] 9 [false, false, false, false] (.one [] 12 [false, false, false, false, false] (.one [] 13 [false, false, false, false, false, false] (.leaf [])))))) 11 [true] (.two [] 4 [false, true] (.two [] 9 [false, false, false] (.one [] 10 [false, false, false, true] (.one [] 12 [false, false, false, false, false] (.one [] 13 [false, false, false, false, false, false] (.leaf [])))) 10 [false, false, true] (.one [] 9 [false, false, false, false] (.one [] 12 [false, false, false, false, false] (.one [] 13 [false, false, false, false, false, false] (.leaf []))))) 10 [false, true] (.one [] 4 [false, false, true] (.one [] 9 [false, false, false, false] (.one [] 12 [false, false, false, false, false] (.one [] 13 [false, false, false, false, false, false] (.leaf []))))))) (by kernel_rfl) (by kernel_rfl) ?_
          rw [show ({ w3 with drawn := w3.drawn + 1 } : World) = W0 from hW0.symm]
          replace hW0 := Hidd.mk hW0
          simp only [Tr.map, List.map_cons, List.map_nil, List.getD_cons_succ, List.getD_cons_zero]
          have ho := Hidd.mk (show Own w _ W0 _ by rw [hW0.out]; exact ho3.out.drew)
          clear hW0 ho3
          refine TrW.three (fun _ => True) trivial ?_
          repeat (first | (refine StQ.skip (by rfl) ?_; simp only [Act.put, List.setIfInBounds_toArray, List.set_cons_zero, List.set_cons_succ]) | (refine StQ.go' (by rfl) (Exists.intro ?_ (And.intro (fun w' hS => ?_) ?_)); rotate_left; (focus (skip; go_simp; try with_reducible rfl)); simp only [Act.put, List.setIfInBounds_toArray, List.set_cons_zero, List.set_cons_succ]))
          refine StQ.nil ?_
          refine ⟨?_, ?_, ?_⟩
          all_goals repeat' (first
            | (refine TrW.three (fun _ => True) trivial (StQ.nil ⟨?_, ?_, ?_⟩))
            | (refine TrW.two (fun _ => True) trivial (StQ.nil ⟨?_, ?_⟩))
            | (refine TrW.one (fun _ => True) trivial (StQ.nil ?_))
            | (refine TrW.leaf (fun _ => True) trivial (StQ.nil ?_); refine Calm.normal ?_)
            | (refine TrO.go (by rfl) (fun K hK => ?_); first
              | (refine wp_store_own ho.out 1 rfl 69 _ _ rfl rfl rfl (shaV_info _) (shaV_hold _) (sha_one _) ?_; intro W1 ho1; refine hK.out _ _ (.inr (by simp [oblig])) ?_; clear hK K ho; have ho := Hidd.mk ho1; clear ho1)
              | (refine wp_store_own ho.out 2 rfl 69 _ _ rfl rfl rfl (shaV_info _) (shaV_hold _) (sha_one _) ?_; intro W1 ho1; refine hK.out _ _ (.inr (by simp [oblig])) ?_; clear hK K ho; have ho := Hidd.mk ho1; clear ho1)
              | (go_simp; go_at_call 27; first
                | (with_reducible refine (digestOf_any _ _ c3 _ xs hl.out (by omega) (hcA.out _ (row_cells ho.out 0 rfl))).mono ?_; rintro e W1 ⟨rfl, hbA⟩; refine hK.out _ _ (.inr (by simp [oblig])) ?_; clear hK K; have ho1 := Hidd.mk (ho.out.ext hbA); clear ho hbA; have ho := ho1; clear ho1)
                | (with_reducible refine (digestOf_any _ _ 0 _ [] hl1.out (by omega) (hcB.out _ (row_cells ho.out 0 rfl))).mono ?_; rintro e W1 ⟨rfl, hbA⟩; refine hK.out _ _ (.inr (by simp [oblig])) ?_; clear hK K; have ho1 := Hidd.mk (ho.out.ext hbA); clear ho hbA; have ho := ho1; clear ho1))
              | (go_simp; have ho1 := (ho.out.alloc (.cells #[.int .u8 0, .int .u8 0, .int .u8 0, .int .u8 0, .int .u8 0, .int .u8 0, .int .u8 0, .int .u8 0, .int .u8 0, .int .u8 0, .int .u8 0, .int .u8 0, .int .u8 0, .int .u8 0, .int .u8 0, .int .u8 0, .int .u8 0, .int .u8 0, .int .u8 0, .int .u8 0, .int .u8 0, .int .u8 0, .int .u8 0, .int .u8 0, .int .u8 0, .int .u8 0, .int .u8 0, .int .u8 0, .int .u8 0, .int .u8 0, .int .u8 0, .int .u8 0] 69 (0, 0))).perm (List.Perm.swap _ _ _); refine hK.out _ _ (.inr (by simp [oblig])) ?_; clear hK K ho; generalize (World.heap _).size = pn at ho1 ⊢; generalize World.alloc _ _ = W1 at ho1 ⊢; have ho := Hidd.mk ho1; clear ho1)))
          all_goals first
            | (have hL := Hidd.mk (ho.out.reorder (M := [blk _ (.cells (shaV xs) 69 (0, 0)), blk _ (.cells (shaV []) 69 (0, 0))]) [1, 2] rfl (by decide)); clear ho; first | go_meet | (go_wp2_with fail; go_meet); case rel => exact ⟨_, _, rfl, rfl, hL⟩)
            | (have hL := Hidd.mk (ho.out.reorder (M := [blk _ (.cells (shaV xs) 69 (0, 0)), blk _ (.cells (shaV []) 69 (0, 0))]) [2, 1] rfl (by decide)); clear ho; first | go_meet | (go_wp2_with fail; go_meet); case rel => exact ⟨_, _, rfl, rfl, hL⟩)
        · have hcA : Hidd (∀ W, Cells W (some ⟨gb, 0, none⟩) (nums .u8 (xs ++ ys)) → Cells W (some ⟨gb, 0, none⟩) (nums .u8 xs)) := ⟨fun W h => by
            have := h.take len0
            rw [← nums_take, List.take_left' hl.out] at this
            exact this⟩
          have hcB : Hidd (∀ W, Cells W (some ⟨gb, 0, none⟩) (nums .u8 (xs ++ ys)) → Cells W (some ⟨gb, len0, none⟩) (nums .u8 ys)) := ⟨fun W h => by
            have := h.drop len0
            rw [← nums_drop, List.drop_left' hl.out] at this
            simp only [Option.map, add_plain] at this
            exact this⟩
          have hle : len0 ≤ c3 := by omega
          have bz0 : (0 : Int) ≤ (len0 : Int) := by omega
          have bz1 : (len0 : Int) ≤ (len0 : Int) + (len1 : Int) := by omega
          have bz2 : (len0 : Int) + (len1 : Int) ≤ (c3 : Int) := by omega
          have bz3 : (len0 : Int) ≤ (c3 : Int) := by omega
          have bz4 : len0 + len1 - len0 = len1 := by omega
          have bz5 : ((len0 : Int) + (len1 : Int)).toNat = len0 + len1 := by omega
          have bz6 : ¬ c3 - len0 = 0 := by omega
          obtain ⟨W0, hW0⟩ : ∃ zz, zz = World.drew w3 := ⟨_, rfl⟩
          refine wp_region_tree (.three [0, 1, 5, 6, 2, 7, 3, 8] 4 [true] (.three [] 9 [false, false] (.two [] 10 [false, false, true] (.one [] 11 [false, false, false, true] (.one [] 12 [false, false, false, false, false] (.one [] 13 [false, false, false, false, false, false] (.leaf [])))) 11 [false, false, true] (.one [] 10 [false, false, false, true] (.one [] 12 [false, false, false, false, false] (.one [] 13 [false, false, false, false, false, false] (.leaf []))))) 10 [false, true] (.two [] 9 [false, false, false] (.one [] 11 [false, false, false, true] (.one [] 12 [false, false, false, false, false] (.one [] 13 [false, false, false, false, false, false] (.leaf [])))) 11 [false, false, true] (.one [] 9 [false, false, false, false] (.one [] 12 [false, false, false, false, false] (.one [] 13 [false, false, false, false, false, false] (.leaf []))))) 11 [false, true] (.two [] 9 [false, false, false] (.one [] 10 [false, false, false, true] (.one [] 12 [false, false, false, false, false] (.one [] 13 [false, false, false, false, false, false] (.leaf [])))) 10 [false, false, true] (.one [] 9 [false, false, false, false] (.one [] 12 [false, false, false, false, false] (.one [] 13 [false, false, false, false, false, false] (.leaf [])))))) 10 [true] (.two [] 4 [false, true] (.two [] 9 [false, false, false] (.one [] 11 [false, false, false, true] (.one [] 12 [false, false, false, false, false] (.one [] 13 [false, false, false, false, false, false] (.leaf [])))) 11 [false, false, true] (.one [] 9 [false, false, false, false] (.one [] 12 [false, false, false, false, false] (.one [] 13 [false, false, false, false, false, false] (.leaf []))))) 11 [false, true] (.one [] 4 [false, false, true] (.one [] 9 [false, false, false, false] (.one [] 12 [false, false, false, false, false] (.one [] 13 [false, false, false, false, false, false] (.leaf [])))))) 11 [true] (.two [] 4 [false, true] (.two [] 9 [false, false, false] (.one [] 10 [false, false, false, true] (.one [] 12 [false, false, false, false, false] (.one [] 13 [false, false, false, false, false, false] (.leaf [])))) 10 [false, false, true] (.one [] 9 [false, false, false, false] (.one [] 12 [false, false, false, false, false] (.one [] 13 [false, false, false, false, false, false] (.leaf []))))) 10 [false, true] (.one [] 4 [false, false, true] (.one [] 9 [false, false, false, false] (.one [] 12 [false, false, false, false, false] (.one [] 13 [false, false, false, false, false, false] (.leaf []))))))) (by kernel_rfl) (by kernel_rfl) ?_
          rw [show ({ w3 with drawn := w3.drawn + 1 } : World) = W0 from hW0.symm]
          replace hW0 := Hidd.mk hW0
          simp only [Tr.map, List.map_cons, List.map_nil, List.getD_cons_succ, List.getD_cons_zero]
          have ho := Hidd.mk (show Own w _ W0 _ by rw [hW0.out]; exact ho3.out.drew)
          clear hW0 ho3
          refine TrW.three (fun _ => True) trivial ?_
          repeat (first | (refine StQ.skip (by rfl) ?_; simp only [Act.put, List.setIfInBounds_toArray, List.set_cons_zero, List.set_cons_succ]) | (refine StQ.go' (by rfl) (Exists.intro ?_ (And.intro (fun w' hS => ?_) ?_)); rotate_left; (focus (skip; go_simp; try with_reducible rfl)); simp only [Act.put, List.setIfInBounds_toArray, List.set_cons_zero, List.set_cons_succ]))
          refine StQ.nil ?_
          refine ⟨?_, ?_, ?_⟩
          all_goals repeat' (first
            | (refine TrW.three (fun _ => True) trivial (StQ.nil ⟨?_, ?_, ?_⟩))
            | (refine TrW.two (fun _ => True) trivial (StQ.nil ⟨?_, ?_⟩))
            | (refine TrW.one (fun _ => True) trivial (StQ.nil ?_))
            | (refine TrW.leaf (fun _ => True) trivial (StQ.nil ?_); refine Calm.normal ?_)
            | (refine TrO.go (by rfl) (fun K hK => ?_); first
              | (refine wp_store_own ho.out 1 rfl 69 _ _ rfl rfl rfl (shaV_info _) (shaV_hold _) (sha_one _) ?_; intro W1 ho1; refine hK.out _ _ (.inr (by simp [oblig])) ?_; clear hK K ho; have ho := Hidd.mk ho1; clear ho1)
              | (refine wp_store_own ho.out 2 rfl 69 _ _ rfl rfl rfl (shaV_info _) (shaV_hold _) (sha_one _) ?_; intro W1 ho1; refine hK.out _ _ (.inr (by simp [oblig])) ?_; clear hK K ho; have ho := Hidd.mk ho1; clear ho1)
              | (go_simp; go_at_call 27; first
                | (with_reducible refine (digestOf_any _ _ len0 _ xs hl.out (by omega) (hcA.out _ (row_cells ho.out 0 rfl))).mono ?_; rintro e W1 ⟨rfl, hbA⟩; refine hK.out _ _ (.inr (by simp [oblig])) ?_; clear hK K; have ho1 := Hidd.mk (ho.out.ext hbA); clear ho hbA; have ho := ho1; clear ho1)
                | (with_reducible refine (digestOf_any _ _ len1 _ ys hl1.out (by omega) (hcB.out _ (row_cells ho.out 0 rfl))).mono ?_; rintro e W1 ⟨rfl, hbA⟩; refine hK.out _ _ (.inr (by simp [oblig])) ?_; clear hK K; have ho1 := Hidd.mk (ho.out.ext hbA); clear ho hbA; have ho := ho1; clear ho1))
              | (go_simp; have ho1 := (ho.out.alloc (.cells #[.int .u8 0, .int .u8 0, .int .u8 0, .int .u8 0, .int .u8 0, .int .u8 0, .int .u8 0, .int .u8 0, .int .u8 0, .int .u8 0, .int .u8 0, .int .u8 0, .int .u8 0, .int .u8 0, .int .u8 0, .int .u8 0, .int .u8 0, .int .u8 0, .int .u8 0, .int .u8 0, .int .u8 0, .int .u8 0, .int .u8 0, .int .u8 0, .int .u8 0, .int .u8 0, .int .u8 0, .int .u8 0, .int .u8 0, .int .u8 0, .int .u8 0, .int .u8 0] 69 (0, 0))).perm (List.Perm.swap _ _ _); refine hK.out _ _ (.inr (by simp [oblig])) ?_; clear hK K ho; generalize (World.heap _).size = pn at ho1 ⊢; generalize World.alloc _ _ = W1 at ho1 ⊢; have ho := Hidd.mk ho1; clear ho1)))
          all_goals first
            | (have hL := Hidd.mk (ho.out.reorder (M := [blk _ (.cells (shaV xs) 69 (0, 0)), blk _ (.cells (shaV ys) 69 (0, 0))]) [1, 2] rfl (by decide)); clear ho; first | go_meet | (go_wp2_with fail; go_meet); case rel => exact ⟨_, _, rfl, rfl, hL⟩)
            | (have hL := Hidd.mk (ho.out.reorder (M := [blk _ (.cells (shaV xs) 69 (0, 0)), blk _ (.cells (shaV ys) 69 (0, 0))]) [2, 1] rfl (by decide)); clear ho; first | go_meet | (go_wp2_with fail; go_meet); case rel => exact ⟨_, _, rfl, rfl, hL⟩)
    case rest =>
      obtain ⟨p6, p7, rfl, rfl, hL⟩ := hcut
      clear ho3 hcp hxy
      have heq := fun (W : World) => eq_sha 69 Try.underlying69 (sha xs) (sha_len xs) W
      have heq2 := fun (W : World) => eq_sha 69 Try.underlying69 (sha ys) (sha_len ys) W
      go_wp2
      obtain ⟨W0, hW0⟩ : ∃ zz, zz = World.drew wc := ⟨_, rfl⟩
      refine wp_region_flow [([0, 2], some (1, [true])), ([], some (3, [false, true])), ([], some (4, [false, false, true])), ([5, 6, 7, 9], some (8, [true, false, false, false])), ([], some (10, [false, true, false, false, false])), ([], some (11, [false, false, true, false, false, false])), ([12, 13, 14, 15, 17, 16, 18, 19, 20, 21, 22, 23, 24, 25, 26], none)] (by kernel_rfl) (by kernel_rfl) ?_
      rw [show ({ wc with drawn := wc.drawn + 1 } : World) = W0 from hW0.symm]
      replace hW0 := Hidd.mk hW0
      simp only [opsF, List.map_cons, List.map_nil, List.getD_cons_succ, List.getD_cons_zero, Option.map]
      have hO := Hidd.mk (show Own w _ W0 _ by rw [hW0.out]; exact hL.out.drew)
      clear hW0 hL
      refine FlW.stage (fun zz => Kept (fun _ => False) W0 zz) (Kept.refl _ _) ?_
      repeat (first | (first | (refine StQ.loadA _ rfl rfl (by rfl) (fun w' hS => load_kept hO.out hS 0 rfl) ?_) | (refine StQ.loadA _ rfl rfl (by rfl) (fun w' hS => load_kept hO.out hS 1 rfl) ?_); simp only [Act.put, List.setIfInBounds_toArray, List.set_cons_zero, List.set_cons_succ]) | (refine StQ.skip (by rfl) ?_; simp only [Act.put, List.setIfInBounds_toArray, List.set_cons_zero, List.set_cons_succ]) | (refine StQ.go' (by rfl) (Exists.intro ?_ (And.intro (fun w' hS => ?_) ?_)); rotate_left; (focus (skip; go_simp; try with_reducible rfl)); simp only [Act.put, List.setIfInBounds_toArray, List.set_cons_zero, List.set_cons_succ]))
      refine StQ.nil ?_
      have hl1' := Hidd.mk (row_lit (Own.nil W0 (fun _ => False)) 5 1 0 #[] (nums .u8 []) rfl rfl (by decide))
      refine FlO.go (by rfl) (fun K hK => ?_); go_simp; refine hK.out _ _ (.inr ⟨hl1'.out.kept, trivial⟩) ?_; clear hK K
      refine FlW.stage (fun _ => True) trivial (StQ.nil ?_)
      refine FlO.go (by rfl) (fun K hK => ?_)
      (refine appb_op _ _ rfl hl1'.out 0 _ 0 0 [] rfl rfl a0 len0 cap0 xs rfl hl.out (hA.out.below ((hO.out.ext (hl1'.out.below fun _ => id)).below fun _ => id)) (by omega) ?_; intro A4 c4 w4 ho4 hk4; clear hk4; rw [Nat.zero_add] at ho4 ⊢; rw [List.nil_append] at ho4)
      refine hK.out _ _ (.inr ⟨ho4.kept, trivial⟩) ?_
      clear hK K
      have ho5 := Hidd.mk ho4
      clear ho4 hl1'
      refine FlW.stage (fun _ => True) trivial (StQ.nil ?_)
      refine FlO.go (by rfl) (fun K hK => ?_)
      go_simp
      (with_reducible refine (digestOf_any _ A4 len0 c4 xs hl.out (by omega) (row_cells ho5.out 0 rfl)).mono ?_; rintro e w6 ⟨rfl, hb6⟩; have ho6 := ho5.out.ext hb6)
      refine hK.out _ _ (.inr ⟨ho6.kept, trivial⟩) ?_
      clear hK K
      have hO2 := Hidd.mk (hO.out.ext (ho6.below fun _ => id))
      clear hO ho5 ho6 hb6
      refine FlW.stage (fun zz => Kept (fun _ => False) w6 zz) (Kept.refl _ _) ?_
      repeat (first | (first | (refine StQ.loadA _ rfl rfl (by rfl) (fun w' hS => load_kept hO2.out hS 0 rfl) ?_) | (refine StQ.loadA _ rfl rfl (by rfl) (fun w' hS => load_kept hO2.out hS 1 rfl) ?_); simp only [Act.put, List.setIfInBounds_toArray, List.set_cons_zero, List.set_cons_succ]) | (refine StQ.skip (by rfl) ?_; simp only [Act.put, List.setIfInBounds_toArray, List.set_cons_zero, List.set_cons_succ]) | (refine StQ.go' (by rfl) (Exists.intro ?_ (And.intro (fun w' hS => ?_) ?_)); rotate_left; (focus (skip; go_simp; try with_reducible rfl)); simp only [Act.put, List.setIfInBounds_toArray, List.set_cons_zero, List.set_cons_succ]))
      refine StQ.nil ?_
      have hl2' := Hidd.mk (row_lit (Own.nil w6 (fun _ => False)) 5 1 0 #[] (nums .u8 []) rfl rfl (by decide))
      refine FlO.go (by rfl) (fun K hK => ?_); go_simp; refine hK.out _ _ (.inr ⟨hl2'.out.kept, trivial⟩) ?_; clear hK K
      refine FlW.stage (fun _ => True) trivial (StQ.nil ?_)
      refine FlO.go (by rfl) (fun K hK => ?_)
      (refine appb_op _ _ rfl hl2'.out 0 _ 0 0 [] rfl rfl a1 len1 cap1 ys rfl hl1.out (hA1.out.below ((hO2.out.ext (hl2'.out.below fun _ => id)).below fun _ => id)) (by omega) ?_; intro A7 c7 w7 ho7 hk7; clear hk7; rw [Nat.zero_add] at ho7 ⊢; rw [List.nil_append] at ho7)
      refine hK.out _ _ (.inr ⟨ho7.kept, trivial⟩) ?_
      clear hK K
      have ho8 := Hidd.mk ho7
      clear ho7 hl2'
      refine FlW.stage (fun _ => True) trivial (StQ.nil ?_)
      refine FlO.go (by rfl) (fun K hK => ?_)
      go_simp
      (with_reducible refine (digestOf_any _ A7 len1 c7 ys hl1.out (by omega) (row_cells ho8.out 0 rfl)).mono ?_; rintro e w9 ⟨rfl, hb9⟩; have ho9 := ho8.out.ext hb9)
      refine hK.out _ _ (.inr ⟨ho9.kept, trivial⟩) ?_
      clear hK K
      have hO3 := Hidd.mk (hO2.out.ext (ho9.below fun _ => id))
      clear hO2 ho8 ho9 hb9
      have hcv1 := conv_str (P := Try.prog) (w := w9) (src := 67) (dst := 9) (e := 5) (A := a0) (c := cap0) (xs := xs) Try.underlying67 Try.underlying5 Try.underlying9 (hA.out.below (hO3.out.below fun _ => id))
      rw [hl.out] at hcv1
      have hcv2 := conv_str (P := Try.prog) (w := w9) (src := 67) (dst := 9) (e := 5) (A := a1) (c := cap1) (xs := ys) Try.underlying67 Try.underlying5 Try.underlying9 (hA1.out.below (hO3.out.below fun _ => id))
      rw [hl1.out] at hcv2
      by_cases hxs : strOfNums xs = strOfNums ys
      · obtain rfl := hinj.out hxs
        clear hinj hxs
        have hs1 : ((strOfNums xs).toList == (strOfNums xs).toList) = true := by simp
        refine FlW.heads (fun zz => zz = _) rfl ?_
        repeat (first | (first | (refine StQ.loadA _ rfl rfl (by rfl) (fun w' hS => load_kept hO3.out (by rw [hS]; exact Kept.refl _ _) 0 rfl) ?_) | (refine StQ.loadA _ rfl rfl (by rfl) (fun w' hS => load_kept hO3.out (by rw [hS]; exact Kept.refl _ _) 1 rfl) ?_); simp only [Act.put, List.setIfInBounds_toArray, List.set_cons_zero, List.set_cons_succ]) | (refine StQ.skip (by rfl) ?_; simp only [Act.put, List.setIfInBounds_toArray, List.set_cons_zero, List.set_cons_succ]) | (refine StQ.go' (by rfl) (Exists.intro ?_ (And.intro (fun w' hS => ?_) ?_)); rotate_left; (focus (rw [hS]; go_simp; try with_reducible rfl)); simp only [Act.put, List.setIfInBounds_toArray, List.set_cons_zero, List.set_cons_succ]))
        refine StQ.nil ?_
        refine FlW.nil (Calm.normal ?_)
        go_wp2
        go_ret
        exact ⟨by first | rfl | simp, hO3.out.below fun _ => id⟩
      · have hs1 : ((strOfNums xs).toList == (strOfNums ys).toList) = false := by
          rw [beq_eq_false_iff_ne]
          intro h
          rw [ByteArray.toList_eq, ByteArray.toList_eq] at h
          exact hxs (by cases hx : strOfNums xs; cases hy : strOfNums ys; simp_all [Array.toList_inj])
        clear hinj
        refine FlW.heads (fun zz => zz = _) rfl ?_
        repeat (first | (first | (refine StQ.loadA _ rfl rfl (by rfl) (fun w' hS => load_kept hO3.out (by rw [hS]; exact Kept.refl _ _) 0 rfl) ?_) | (refine StQ.loadA _ rfl rfl (by rfl) (fun w' hS => load_kept hO3.out (by rw [hS]; exact Kept.refl _ _) 1 rfl) ?_); simp only [Act.put, List.setIfInBounds_toArray, List.set_cons_zero, List.set_cons_succ]) | (refine StQ.skip (by rfl) ?_; simp only [Act.put, List.setIfInBounds_toArray, List.set_cons_zero, List.set_cons_succ]) | (refine StQ.go' (by rfl) (Exists.intro ?_ (And.intro (fun w' hS => ?_) ?_)); rotate_left; (focus (rw [hS]; go_simp; try with_reducible rfl)); simp only [Act.put, List.setIfInBounds_toArray, List.set_cons_zero, List.set_cons_succ]))
        refine StQ.nil ?_
        refine FlW.nil (Calm.normal ?_)
        go_wp2
        go_ret
        exact ⟨by first | rfl | simp, hO3.out.below fun _ => id⟩
end Go.Proofs.Ytpiahnecpbalhaa
