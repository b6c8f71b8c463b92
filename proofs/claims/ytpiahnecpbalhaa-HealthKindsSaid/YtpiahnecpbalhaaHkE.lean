/- HealthKinds walked. -/
import Derived.Test.YtpiahnecpbalhaaHkD
import Derived.Test.YtpiahnecpbalhaaHeF
import Derived.Test.YtpiahnecpbalhaaFlow
import Derived.Test.YtpiahnecpbalhaaRec
import Derived.Test.YtpiahnecpbalhaaRead
import Derived.Deep.DeepCutAuto
namespace Go.Proofs.Ytpiahnecpbalhaa
open Go.RowKit
theorem u64_mod (z : Int) (m : Nat) (hm : 0 < m) : ∃ f : Nat, f < m ∧ (IntKind.u64.wrap z).tmod (m : Int) = f ∧ IntKind.u64.wrap z % (m : Int) = f := by
  have h0 : 0 ≤ IntKind.u64.wrap z := by unfold IntKind.wrap; simp [IntKind.signed, IntKind.bits]; omega
  have h1 : 0 ≤ IntKind.u64.wrap z % (m : Int) := Int.emod_nonneg _ (by omega)
  have h2 : IntKind.u64.wrap z % (m : Int) < m := Int.emod_lt_of_pos _ (by omega)
  exact ⟨(IntKind.u64.wrap z % (m : Int)).toNat, by omega, by rw [Int.tmod_eq_emod_of_nonneg h0]; omega, by omega⟩
/-- Links: code and place. -/
def LinksAt (w : World) (A : Option Addr) (n : Nat) (ls : List (Int × Int)) : Prop :=
  ls.length = n ∧ ∀ (i : Nat) x, ls[i]? = some x → (-9223372036854775808 ≤ x.2 ∧ x.2 ≤ 9223372036854775807) ∧ ∃ a, A = some a ∧ w.cell? (a.add (i * 2)) = some (.int .i64 x.1) ∧ w.cell? ⟨(a.add (i * 2)).block, (a.add (i * 2)).off + 1, none⟩ = some (.int .i64 x.2)
theorem LinksAt.below {w w' : World} {A : Option Addr} {n : Nat} {ls : List (Int × Int)} (h : LinksAt w A n ls) (hB : Below w.heap.size w w') : LinksAt w' A n ls :=
  ⟨h.1, fun i x hi => by
    obtain ⟨hr, a, e, h0, h1⟩ := h.2 i x hi
    exact ⟨hr, a, e, vkeep hB h0, vkeep hB h1⟩⟩
def codeL (x : Int) : Int := 1 + IntKind.u64.wrap x % 180
/-- The chain behind i links. -/
def chainOf : List (Int × Int) → List (Int × Int)
  | [] => []
  | x :: xs => chainOf xs ++ [(codeL x.1, clipA x.2)]
theorem codeL_rng (x : Int) : ∃ c : Nat, codeL x = (c : Int) ∧ 1 ≤ c ∧ c ≤ 180 := by
  obtain ⟨f, h1, _, h3⟩ := u64_mod x 180 (by decide)
  refine ⟨f + 1, ?_, by omega, by omega⟩
  unfold codeL
  rw [show (180 : Int) = ((180 : Nat) : Int) from rfl, h3]
  omega
theorem below_drewK {w wr : World} (h : Below w.heap.size w wr) : Below w.heap.size w wr.drew := (((Own.nil w (fun _ => False)).ext h).drew).below fun _ => id
theorem wrap64_eq (n : Int) (h1 : -9223372036854775808 ≤ n) (h2 : n ≤ 9223372036854775807) : wrap64 n = n := by unfold wrap64; omega
theorem one_err (c a : Int) : errB [(c, a)] none = atB c a := ByteArray.append_empty ..
theorem err_cons {c a : Int} {l : List (Int × Int)} {i : Nat} (hi : 0 < i) (hl : l.length = i) : errB ((c, a) :: l) none = atB c a ++ ⟨#[62]⟩ ++ errB l none := by
  rcases l with _ | ⟨⟨d, b⟩, l⟩
  · simp at hl
    omega
  · show atB c a ++ (sepB ++ atB d b ++ errTail l none) = atB c a ++ sepB ++ (atB d b ++ errTail l none)
    simp only [ByteArray.append_assoc]
theorem code_nat (x : Int) : ∃ f : Nat, (IntKind.u64.wrap x).tmod 180 = (f : Int) ∧ IntKind.u64.wrap x % 180 = (f : Int) ∧ wrap64 (f : Int) = (f : Int) ∧ wrap64 (1 + (f : Int)) = 1 + (f : Int) ∧ 1 ≤ 1 + (f : Int) ∧ 1 + (f : Int) ≤ 180 ∧ (1 + (f : Int)) ≠ 0 := by
  obtain ⟨f, hf1, hf2, hf3⟩ := u64_mod x 180 (by decide)
  refine ⟨f, hf2, hf3, ?_, ?_, by omega, by omega, by omega⟩
  · rw [wrap64_eq _ (by omega) (by omega)]
  · rw [wrap64_eq _ (by omega) (by omega)]
theorem clip_rng (y : Int) (h : y ≤ 9223372036854775807) : -1 ≤ clipA y ∧ clipA y ≤ 9223372036854775807 := by
  unfold clipA
  split <;> omega
theorem kind_two (l : List (Int × Int)) : ∃ (k want : Int) (ok : Bool), kindC l none = (k, ok) ∧ kindR (chL l) (l.map (·.1)) = want ∧ ((ok = true ∧ want = k ∧ 0 ≤ k ∧ k ≤ 3) ∨ (ok = false ∧ k = 0 ∧ want = -1)) := by
  refine ⟨(kindC l none).1, _, (kindC l none).2, rfl, kind_chain l, ?_⟩
  unfold kindC
  repeat' split
  all_goals simp_all
theorem ok_chain {l : List (Int × Int)} {i : Nat} (hl : l.length = i) (hi : i ≤ 10) (hq : ∀ q ∈ l, 1 ≤ q.1 ∧ q.1 ≤ 180 ∧ -1 ≤ q.2 ∧ q.2 ≤ 9223372036854775807) : OkErr l none :=
  ⟨by omega, fun p hp => by have := hq p hp; omega, by simp⟩
theorem tr_ok {l : List (Int × Int)} (hq : ∀ q ∈ l, 1 ≤ q.1 ∧ q.1 ≤ 180 ∧ -1 ≤ q.2 ∧ q.2 ≤ 9223372036854775807) : trR (chL l ++ [62]) 0 false false = some (l.map (·.1)) := tr_chain l fun q h => by have := hq q h; omega
theorem of_is (a : Nat) (b1 b2 b3 : Bool) (ha : a < 256) (h : ofB a = [.bool b1, .bool b2, .bool b3]) (W : World) : Calls Try.prog 23 #[.int .u8 a] W fun e w' => e = .returned (.agg #[.bool b1, .bool b2, .bool b3]) ∧ Below W.heap.size W w' := by
  have := of_any a W ha
  rw [h] at this
  exact this
theorem new_cells {w w' : World} {cs : Array Value} {T : TypeId} (h : Below (w.alloc (.cells cs T (0, 0))).heap.size (w.alloc (.cells cs T (0, 0))) w') (i : Nat) : w'.cell? ⟨w.heap.size, i, none⟩ = cs[i]? := (((Own.nil w (fun _ => False)).alloc _).ext h).cell 0 rfl i
/-- The five ways of an action. -/
theorem of_ways (a : Nat) (ha : a < 256) : (a = 1 ∧ Hidd (∀ W, Calls Try.prog 23 #[.int .u8 1] W fun e w' => e = .returned (.agg #[.bool true, .bool false, .bool false]) ∧ Below W.heap.size W w')) ∨
    (a = 2 ∧ Hidd (∀ W, Calls Try.prog 23 #[.int .u8 2] W fun e w' => e = .returned (.agg #[.bool true, .bool true, .bool false]) ∧ Below W.heap.size W w')) ∨
    (a = 3 ∧ Hidd (∀ W, Calls Try.prog 23 #[.int .u8 3] W fun e w' => e = .returned (.agg #[.bool true, .bool true, .bool true]) ∧ Below W.heap.size W w')) ∨
    (decide ((1 : Int) ≤ (a : Int)) = false ∧ decide (1 ≤ a) = false ∧ ((a : Int) == 2) = false ∧ ((a : Int) == 3) = false ∧ True ∧ Hidd (∀ W, Calls Try.prog 23 #[.int .u8 a] W fun e w' => e = .returned (.agg #[.bool false, .bool false, .bool false]) ∧ Below W.heap.size W w')) ∨
    (decide ((1 : Int) ≤ (a : Int)) = true ∧ decide ((a : Int) ≤ 3) = false ∧ ((a : Int) == 2) = false ∧ ((a : Int) == 3) = false ∧ decide (1 ≤ a) = true ∧ Hidd (∀ W, Calls Try.prog 23 #[.int .u8 a] W fun e w' => e = .returned (.agg #[.bool false, .bool false, .bool false]) ∧ Below W.heap.size W w')) := by
  by_cases h1 : a = 1
  · exact .inl ⟨h1, ⟨of_is 1 _ _ _ (by decide) rfl⟩⟩
  by_cases h2 : a = 2
  · exact .inr (.inl ⟨h2, ⟨of_is 2 _ _ _ (by decide) rfl⟩⟩)
  by_cases h3 : a = 3
  · exact .inr (.inr (.inl ⟨h3, ⟨of_is 3 _ _ _ (by decide) rfl⟩⟩))
  have he : ofB a = [.bool false, .bool false, .bool false] := by unfold ofB; simp; omega
  have hh := Hidd.mk (of_is a _ _ _ ha he)
  by_cases h0 : a = 0
  · exact .inr (.inr (.inr (.inl ⟨decide_eq_false (by omega), decide_eq_false (by omega), by rw [beq_eq_false_iff_ne]; omega, by rw [beq_eq_false_iff_ne]; omega, trivial, hh⟩)))
  · exact .inr (.inr (.inr (.inr ⟨decide_eq_true (by omega), decide_eq_false (by omega), by rw [beq_eq_false_iff_ne]; omega, by rw [beq_eq_false_iff_ne]; omega, decide_eq_true (by omega), hh⟩)))
set_option maxRecDepth 100000
set_option maxHeartbeats 8000000
theorem healthKinds_in (A0 : Option Addr) (len0 cap0 : Nat) (ls : List (Int × Int)) (a1 : Int) (w : World) (hR : LinksAt w A0 len0 ls) (h1 : (Lit.int .u8 a1).wf = true) :
    Calls Try.prog 13 #[.slice A0 len0 cap0, .int .u8 a1] w fun e w' => e = .returned (.bool true) ∧ Below w.heap.size w w' := by
  obtain ⟨a, rfl, ha⟩ := wf8 h1
  have hofc := of_ways a ha
  clear ha h1
  have hlen := Hidd.mk hR.1
  replace hR := Hidd.mk hR
  go_enter Try.func13, Try.ntmps13
  go_wp2_with (go_at_call 14; refine (awake_any _).mono ?_; rintro e w1 ⟨rfl, hb1⟩; have hb1 := Hidd.mk hb1)
  go_loopg [5, 6, 7] (min len0 10) (fun g v5 v6 v7 wr => ∃ (i : Nat) (l : List (Int × Int)), i + g = min len0 10 ∧ v6 = .string (errB l none) ∧ v7 = .int .i64 i ∧ l.length = i ∧ (i = 0 ∧ v5 = .nilIface ∨ 0 < i ∧ ∃ p, v5 = .iface 94 p) ∧ Hidd (∀ q ∈ l, 1 ≤ q.1 ∧ q.1 ≤ 180 ∧ -1 ≤ q.2 ∧ q.2 ≤ 9223372036854775807) ∧ Hidd (IsErr wr l none v5) ∧ Hidd (Below w.heap.size w wr))
  case atStart => exact ⟨0, [], by omega, rfl, rfl, rfl, .inl ⟨rfl, rfl⟩, ⟨by simp⟩, ⟨rfl⟩, hb1⟩
  case round =>
    clear hb1
    obtain ⟨i, l, hg, rfl, rfl, hll, hv, hq, he, hb⟩ := hrel
    cases gk with
    | zero =>
      have hi10 : i ≤ 10 := by omega
      have hway : decide (i < len0) = false ∨ (decide (i < len0) = true ∧ decide (i < 10) = false ∧ decide ((i : Int) < 10) = false) := by
        by_cases h : i < len0
        · exact .inr ⟨decide_eq_true h, decide_eq_false (by omega), decide_eq_false (by omega)⟩
        · exact .inl (decide_eq_false h)
      obtain ⟨k, want, ok, hk, hkr, hcase⟩ := kind_two l
      have hok := Hidd.mk (ok_chain hll hi10 hq.out)
      have htr := Hidd.mk (tr_ok hq.out)
      have hlc := Hidd.mk (show (chL l).length ≤ 100000 by have := chain_len l; omega)
      replace hk := Hidd.mk hk
      replace hkr := Hidd.mk hkr
      obtain ⟨T, hT⟩ : ∃ T, T = errB l none := ⟨_, rfl⟩
      rw [← hT]
      replace hT := Hidd.mk hT
      have hrd : ∀ W : World, Hidd (Below w.heap.size w W) → Hidd (IsErr W l none u5) → Calls Try.prog 22 #[u5] W fun e w' => e = .returned (.string T) ∧ Below W.heap.size W w' := fun W _ h => by
        rw [hT.out]
        exact read_any l none u5 W h.out hok.out
      have hrk : ∀ W : World, Hidd (Below w.heap.size w W) → Calls Try.prog 35 #[.string T] W fun e w' => e = .returned (.int .i64 want) ∧ Below W.heap.size W w' := fun W _ => by
        rw [hT.out, err_list]
        exact refKind_any _ _ rfl hlc.out (chain_rng l) _ htr.out want hkr.out W
      have hkc : ∀ W : World, Hidd (IsErr W l none u5) → Calls Try.prog 34 #[u5] W fun e w' => e = .returned (.tuple #[.int .u8 k, .bool ok]) ∧ W = w' := fun W h => kind_any l none u5 W h.out k ok hk.out
      replace hrd := Hidd.mk hrd
      replace hrk := Hidd.mk hrk
      replace hkc := Hidd.mk hkc
      clear hi10 hg hv hll hR hlen hq
      rcases hcase with ⟨rfl, rfl, hk0, hk3⟩ | ⟨rfl, rfl, rfl⟩
      · have g1 : decide ((0 : Int) ≤ want) = true := decide_eq_true hk0
        rcases hway with d1 | ⟨d1, d2, d3⟩
        all_goals rcases hofc with ⟨rfl, hof⟩ | ⟨rfl, hof⟩ | ⟨rfl, hof⟩ | ⟨a1, a2, a3, a4, a5, hof⟩ | ⟨a1, a2, a3, a4, a5, hof⟩
        all_goals go_wp2_with (first
          | (go_at_call 34; refine (hkc.out _ he).mono ?_; rintro e w1 ⟨rfl, rfl⟩; clear hkc)
          | (go_at_call 35; refine (hrk.out _ hb).mono ?_; rintro e w2 ⟨rfl, hb2⟩; replace he := Hidd.mk (he.out.below hb2); replace hb := Hidd.mk (below_then hb.out hb2); clear hb2 hrk)
          | (go_at_call 23; refine (hof.out _).mono ?_; rintro e w3 ⟨rfl, hb3⟩; replace he := Hidd.mk (he.out.below hb3); replace hb := Hidd.mk (below_then hb.out hb3); clear hb3)
          | (go_at_call 22; refine (hrd.out _ ⟨below_alloc hb.out _⟩ ⟨he.out.below (below_alloc (Below.refl _ _) _)⟩).mono ?_; rintro e w4 ⟨rfl, hb4⟩; have hc0 : w4.cell? ⟨_, 0, none⟩ = some _ := new_cells hb4 0; have hc1 : w4.cell? ⟨_, 1, none⟩ = some _ := new_cells hb4 1; have hc2 : w4.cell? ⟨_, 2, none⟩ = some _ := new_cells hb4 2; replace hb4 := Hidd.mk hb4; clear hrd))
        all_goals (try rw [Exit.noGoto_ret])
        all_goals go_ret
        all_goals exact ⟨rfl, by have h := hb4.out; exact below_then (below_alloc hb.out _) h⟩
      · rcases hway with d1 | ⟨d1, d2, d3⟩
        all_goals rcases hofc with ⟨rfl, hof⟩ | ⟨rfl, hof⟩ | ⟨rfl, hof⟩ | ⟨a1, a2, a3, a4, a5, hof⟩ | ⟨a1, a2, a3, a4, a5, hof⟩
        all_goals go_wp2_with (first
          | (go_at_call 34; refine (hkc.out _ he).mono ?_; rintro e w1 ⟨rfl, rfl⟩; clear hkc)
          | (go_at_call 35; refine (hrk.out _ hb).mono ?_; rintro e w2 ⟨rfl, hb2⟩; replace he := Hidd.mk (he.out.below hb2); replace hb := Hidd.mk (below_then hb.out hb2); clear hb2 hrk)
          | (go_at_call 23; refine (hof.out _).mono ?_; rintro e w3 ⟨rfl, hb3⟩; replace he := Hidd.mk (he.out.below hb3); replace hb := Hidd.mk (below_then hb.out hb3); clear hb3)
          | (go_at_call 22; refine (hrd.out _ ⟨below_alloc hb.out _⟩ ⟨he.out.below (below_alloc (Below.refl _ _) _)⟩).mono ?_; rintro e w4 ⟨rfl, hb4⟩; have hc0 : w4.cell? ⟨_, 0, none⟩ = some _ := new_cells hb4 0; have hc1 : w4.cell? ⟨_, 1, none⟩ = some _ := new_cells hb4 1; have hc2 : w4.cell? ⟨_, 2, none⟩ = some _ := new_cells hb4 2; replace hb4 := Hidd.mk hb4; clear hrd))
        all_goals (try rw [Exit.noGoto_ret])
        all_goals go_ret
        all_goals exact ⟨rfl, by have h := hb4.out; exact below_then (below_alloc hb.out _) h⟩
    | succ g =>
      clear hofc
      have hi : i < len0 := by omega
      have hi10 : i < 10 := by omega
      have hgp : i + 1 + g = min len0 10 := by omega
      have d1 : decide (i < len0) = true := decide_eq_true hi
      have d2 : decide (i < 10) = true := decide_eq_true hi10
      have d3 : decide ((i : Int) < 10) = true := decide_eq_true (by omega)
      obtain ⟨⟨x, y⟩, hx⟩ : ∃ q, ls[i]? = some q := ⟨_, List.getElem?_eq_getElem (by rw [hlen.out]; exact hi)⟩
      obtain ⟨⟨hy1, hy2⟩, a, rfl, y0, y1⟩ := (hR.out.below hb.out).2 i _ hx
      simp only at y0 y1 hy1 hy2
      obtain ⟨f, hf2, hf3, hw0, hw1, hc1, hc2, hc0⟩ := code_nat x
      obtain ⟨hka1, hka2⟩ := clip_rng y hy2
      replace hw1 := Hidd.mk hw1
      replace hc1 := Hidd.mk hc1
      replace hc2 := Hidd.mk hc2
      replace hc0 := Hidd.mk hc0
      replace hka1 := Hidd.mk hka1
      replace hka2 := Hidd.mk hka2
      have bi0 : (0 : Int) ≤ (i : Int) := by omega
      have bi1 : (i : Int) < (len0 : Int) := by omega
      clear hg hi hi10 hx
      rcases hv with ⟨hi0, rfl⟩ | ⟨hi0, p, rfl⟩
      · replace hi0 := Hidd.mk hi0
        go_wp2
        obtain ⟨W0, hW0⟩ : ∃ zz, zz = World.drew wr := ⟨_, rfl⟩
        refine wp_region_flow [([0, 1, 2, 7, 8, 9, 3, 10, 4, 11, 5, 12], some (6, [true])), ([], some (13, [false, false])), ([14, 15], none)] (by kernel_rfl) (by kernel_rfl) ?_
        rw [show ({ wr with drawn := wr.drawn + 1 } : World) = W0 from hW0.symm]
        replace hW0 := Hidd.mk hW0
        simp only [opsF, List.map_cons, List.map_nil, List.getD_cons_succ, List.getD_cons_zero, Option.map]
        have hb0 := Hidd.mk (show Below w.heap.size w W0 by rw [hW0.out]; exact below_drewK hb.out)
        have hcl0 : ∀ q, W0.cell? q = wr.cell? q := by rw [hW0.out]; exact fun _ => rfl
        rw [← hcl0] at y0 y1
        have hyl0 := World.block_lt_of_cell? W0 _ y0
        have hyl1 := World.block_lt_of_cell? W0 _ y1
        clear hW0 hcl0
        refine FlW.stage (fun zz => Kept (fun _ => False) W0 zz) (Kept.refl _ _) ?_
        repeat (first | (refine StQ.skip (by rfl) ?_; simp only [Act.put, List.setIfInBounds_toArray, List.set_cons_zero, List.set_cons_succ]) | (refine StQ.go' (by rfl) (Exists.intro ?_ (And.intro (fun w' hS => ?_) ?_)); rotate_left; (focus (have hc := Kept.cell0 hS; go_simp; try with_reducible rfl)); simp only [Act.put, List.setIfInBounds_toArray, List.set_cons_zero, List.set_cons_succ]))
        refine StQ.nil ?_
        refine FlO.go (by rfl) (fun K hK => ?_)
        go_simp
        (with_reducible refine (newK_any (1 + (f : Int)) y _ hc0.out).mono ?_; rintro e w2 ⟨b2, rfl, he2, hb2⟩; have hk2 := (Own.nil W0 (fun _ => False)).ext hb2)
        refine hK.out _ _ (.inr ⟨hk2.kept, trivial⟩) ?_
        clear hK K
        have hb3 := Hidd.mk (below_then hb0.out hb2)
        replace he2 := Hidd.mk he2
        clear hb0 hk2
        refine FlW.stage (fun _ => True) trivial (StQ.nil ?_)
        refine FlO.go (by rfl) (fun K hK => ?_)
        go_simp
        (with_reducible refine (at_any (1 + (f : Int)) y _ (by have := hc1.out; omega) (by have := hc2.out; omega) hy1 hy2).mono ?_; rintro e w3 ⟨rfl, hb4⟩)
        refine hK.out _ _ (.inr trivial) ?_
        clear hK K
        have hb5 := Hidd.mk (below_then hb3.out hb4)
        have he3 := Hidd.mk (he2.out.below hb4)
        clear hb3 he2
        refine FlW.heads (fun zz => zz = _) rfl ?_
        repeat (first | (refine StQ.skip (by rfl) ?_; simp only [Act.put, List.setIfInBounds_toArray, List.set_cons_zero, List.set_cons_succ]) | (refine StQ.go' (by rfl) (Exists.intro ?_ (And.intro (fun w' hS => ?_) ?_)); rotate_left; (focus (rw [hS]; go_simp; try with_reducible rfl)); simp only [Act.put, List.setIfInBounds_toArray, List.set_cons_zero, List.set_cons_succ]))
        refine StQ.nil ?_
        refine FlW.nil (Calm.normal ?_)
        go_wp2
        go_roundg g
        case rel =>
          obtain rfl := hi0.out
          exact ⟨0 + 1, [(1 + (f : Int), clipA y)], hgp, by rw [one_err, atB_clip], by go_num, rfl, .inr ⟨by omega, _, rfl⟩, ⟨by intro q hq; obtain rfl := List.mem_singleton.1 hq; exact ⟨hc1.out, hc2.out, hka1.out, hka2.out⟩⟩, he3, hb5⟩
        case measure => omega
      · have hne : ∀ W : World, True := fun _ => trivial
        have hts : Hidd (0 < (errB l none).size ∧ (errB l none).size ≤ 1000) := ⟨by
          rw [err_list, strOfNums_size]
          have h1 := chain_len l
          have h2 : chL l ≠ [] := by rw [ne_eq, chain_nil]; intro h; rw [h] at hll; simp at hll; omega
          have := List.length_pos_iff.2 h2
          omega⟩
        obtain ⟨T, hT⟩ : ∃ T, T = errB l none := ⟨_, rfl⟩
        rw [← hT] at hts ⊢
        replace hT := Hidd.mk hT
        go_wp2
        obtain ⟨W0, hW0⟩ : ∃ zz, zz = World.drew wr := ⟨_, rfl⟩
        refine wp_region_flow [([0, 1, 2, 6, 8, 9, 10, 14, 3, 11, 4, 12, 5, 13], some (7, [true])), ([], some (15, [false, false])), ([16, 17], none)] (by kernel_rfl) (by kernel_rfl) ?_
        rw [show ({ wr with drawn := wr.drawn + 1 } : World) = W0 from hW0.symm]
        replace hW0 := Hidd.mk hW0
        simp only [opsF, List.map_cons, List.map_nil, List.getD_cons_succ, List.getD_cons_zero, Option.map]
        have hb0 := Hidd.mk (show Below w.heap.size w W0 by rw [hW0.out]; exact below_drewK hb.out)
        have he0 := Hidd.mk (show IsErr W0 l none _ from he.out.below (by rw [hW0.out]; exact below_drewK (Below.refl _ _)))
        have hcl0 : ∀ q, W0.cell? q = wr.cell? q := by rw [hW0.out]; exact fun _ => rfl
        rw [← hcl0] at y0 y1
        have hyl0 := World.block_lt_of_cell? W0 _ y0
        have hyl1 := World.block_lt_of_cell? W0 _ y1
        clear hW0 hcl0
        refine FlW.stage (fun zz => Kept (fun _ => False) W0 zz) (Kept.refl _ _) ?_
        repeat (first | (refine StQ.skip (by rfl) ?_; simp only [Act.put, List.setIfInBounds_toArray, List.set_cons_zero, List.set_cons_succ]) | (refine StQ.go' (by rfl) (Exists.intro ?_ (And.intro (fun w' hS => ?_) ?_)); rotate_left; (focus (have hc := Kept.cell0 hS; go_simp; try with_reducible rfl)); simp only [Act.put, List.setIfInBounds_toArray, List.set_cons_zero, List.set_cons_succ]))
        refine StQ.nil ?_
        refine FlO.go (by rfl) (fun K hK => ?_)
        go_simp
        (with_reducible refine (wrapK_any (1 + (f : Int)) y _ p l _ hc0.out he0.out).mono ?_; rintro e w2 ⟨b2, rfl, he2, hb2⟩; have hk2 := (Own.nil W0 (fun _ => False)).ext hb2)
        refine hK.out _ _ (.inr ⟨hk2.kept, trivial⟩) ?_
        clear hK K
        have hb3 := Hidd.mk (below_then hb0.out hb2)
        replace he2 := Hidd.mk he2
        clear hb0 hk2
        refine FlW.stage (fun _ => True) trivial (StQ.nil ?_)
        refine FlO.go (by rfl) (fun K hK => ?_)
        go_simp
        (with_reducible refine (refOverK_any (1 + (f : Int)) y T _ (by have := hc1.out; omega) (by have := hc2.out; omega) hy1 hy2 hts.out.1 hts.out.2).mono ?_; rintro e w3 ⟨rfl, hb4⟩)
        refine hK.out _ _ (.inr trivial) ?_
        clear hK K
        have hb5 := Hidd.mk (below_then hb3.out hb4)
        have he3 := Hidd.mk (he2.out.below hb4)
        clear hb3 he2
        refine FlW.heads (fun zz => zz = _) rfl ?_
        repeat (first | (refine StQ.skip (by rfl) ?_; simp only [Act.put, List.setIfInBounds_toArray, List.set_cons_zero, List.set_cons_succ]) | (refine StQ.go' (by rfl) (Exists.intro ?_ (And.intro (fun w' hS => ?_) ?_)); rotate_left; (focus (rw [hS]; go_simp; try with_reducible rfl)); simp only [Act.put, List.setIfInBounds_toArray, List.set_cons_zero, List.set_cons_succ]))
        refine StQ.nil ?_
        refine FlW.nil (Calm.normal ?_)
        go_wp2
        go_roundg g
        case rel =>
          exact ⟨i + 1, (1 + (f : Int), clipA y) :: l, hgp, by rw [hT.out, err_cons hi0 hll, atB_clip], by go_num, by rw [List.length_cons, hll], .inr ⟨by omega, _, rfl⟩, ⟨by
            intro q hq'
            rcases List.mem_cons.1 hq' with rfl | hq'
            · exact ⟨hc1.out, hc2.out, hka1.out, hka2.out⟩
            · exact hq.out q hq'⟩, he3, hb5⟩
        case measure => omega
end Go.Proofs.Ytpiahnecpbalhaa
