/- Hex of a digest; the fixed facts of the layer. -/
import Derived.Test.YtpiahnecpbalhaaDgE
import Derived.Test.YtpiahnecpbalhaaDgG0
import Derived.Lib.SlBytesConst
import Derived.Deep.LoopGhost
import Derived.Deep.DeepCutAuto
namespace Go.Proofs.Ytpiahnecpbalhaa
open Go.RowKit

theorem make_room (w : World) (n : Nat) (hn : n ≤ 140737488355328) :
    (Instr.makeSlice 67 (.int .i64 0) (.int .i64 (n : Int))).run Try.prog w = .ok (.slice (some ⟨w.heap.size, 0, none⟩) 0 n) (w.alloc (.cells (madeCells #[.int .u8 0] n) 5)) := by
  obtain ⟨i0, hi, hz0, hz1, hz2⟩ := info_parts info_u8
  have hr := run_make (P := Try.prog) w 67 5 i0 (.int .u8 0) Try.underlying67 hi hz0 .i64 .i64 0 n (by omega) (by omega) (by rw [hz2]; omega) (by omega)
  rw [hz1] at hr
  simpa [Value.cells] using hr
theorem row_room {w w0 : World} {S : Nat → Prop} {L : List Res} (h : Own w0 S w L) (n : Nat) (hn : n ≤ maxLen) : Own w0 S (w.alloc (.cells (madeCells #[.int .u8 0] n) 5 (0, 0))) (row 5 1 (.slice (some ⟨w.heap.size, 0, none⟩) 0 n) 0 (nums .u8 []) :: L) :=
  h.new _ (below_alloc (Below.refl _ _) _) (World.ownsRow_made w _ n (Nat.zero_le _) hn (by rw [size_madeCells, Nat.mul_one])) fun k hk => by (injection hk with hk; exact Nat.le_of_eq hk)
theorem hexB_len (d : List Int) : (hexB d).length = 2 * d.length := by
  induction d with
  | nil => rfl
  | cons x d ih => simp only [hexB, List.flatMap_cons, List.length_append, List.length_cons, List.length_nil] at ih ⊢; omega
theorem hexB_succ {d : List Int} {i : Nat} {x : Int} (h : d[i]? = some x) : hexB (d.take (i + 1)) = hexB (d.take i) ++ [hexD (x.toNat / 16), hexD (x.toNat % 16)] := by
  rw [List.take_add_one, h, hexB, List.flatMap_append]
  rfl
theorem idxS {d : List Int} (hd : d.length = 32) {i : Nat} {x : Int} (h : d[i]? = some x) (W : World) : (Instr.index 69 (.agg (nums .u8 d).toArray) (.int .i64 (i : Int))).run Try.prog W = .ok (.int .u8 x) W := by
  have hi : i < 32 := by rw [← hd]; exact (List.getElem?_eq_some_iff.1 h).1
  have a3 := Try.isAgg5
  have z3 := Try.sizeOf5
  have hp : (part 5 (nums .u8 d).toArray (i * 1)).run Try.prog W = .ok (.int .u8 x) W := by
    rw [Nat.mul_one]
    unfold part
    simp only [Sem.run_bind, a3, Result.andThen_ok]
    simp [nums, h]
  unfold Instr.index
  simp only [asIntOf, Sem.run_bind, Sem.run_pure, Result.andThen_ok, run_underlying Try.underlying69]
  rw [if_pos ⟨by omega, by omega⟩]
  simp only [Sem.run_bind, z3, Result.andThen_ok, Int.toNat_natCast, hp]
def digitsB : ByteArray := ⟨#[48, 49, 50, 51, 52, 53, 54, 55, 56, 57, 97, 98, 99, 100, 101, 102]⟩
set_option maxRecDepth 100000 in
theorem idxD (n : Nat) (h : n < 16) (W : World) : (Instr.index 9 (.string digitsB) (.int .u8 (n : Int))).run Try.prog W = .ok (.int .u8 (hexD n)) W := by
  obtain rfl | rfl | rfl | rfl | rfl | rfl | rfl | rfl | rfl | rfl | rfl | rfl | rfl | rfl | rfl | rfl : n = 0 ∨ n = 1 ∨ n = 2 ∨ n = 3 ∨ n = 4 ∨ n = 5 ∨ n = 6 ∨ n = 7 ∨ n = 8 ∨ n = 9 ∨ n = 10 ∨ n = 11 ∨ n = 12 ∨ n = 13 ∨ n = 14 ∨ n = 15 := by omega
  all_goals rfl
theorem u8_and15 (n : Nat) (h : n < 256) : bits .and .u8 (n : Int) 15 = ((n % 16 : Nat) : Int) := by
  rw [show (15 : Int) = ((15 : Nat) : Int) from rfl, u8_and_nat _ _ h (by decide), Nat.and_two_pow_sub_one_eq_mod _ 4]
theorem info_as : (Try.prog.info? 69).map (·.size) = some 32 := by kernel_rfl
set_option maxRecDepth 100000
set_option maxHeartbeats 8000000
theorem hex_any (d : List Int) (hd : d.length = 32) (hb : ∀ x ∈ d, 0 ≤ x ∧ x < 256) (w : World) : Calls Try.prog 29 #[.agg (nums .u8 d).toArray] w fun e w' => e = .returned (.string (strOfNums (hexB d))) ∧ Below w.heap.size w w' := by
  replace hb := Hidd.mk hb
  have hmk : ∀ W : World, (Instr.makeSlice 67 (.int .i64 0) (.int .i64 64)).run Try.prog W = .ok (.slice (some ⟨W.heap.size, 0, none⟩) 0 64) (W.alloc (.cells (madeCells #[.int .u8 0] 64) 5)) := fun W => make_room W 64 (by decide)
  have hcells : (nums .u8 d).toArray.size = 32 := by simp [nums_length, hd]
  replace hcells := Hidd.mk hcells
  have hd2 := Hidd.mk hd
  clear hd
  go_enter Try.func29, Try.ntmps29
  have hoA := Hidd.mk (row_room ((Own.nil w (fun _ => False)).alloc (.cells (nums .u8 d).toArray 69 (0, 0))) 64 (by decide))
  go_upto_region 2 with fail
  generalize World.alloc (World.alloc w _) _ = wa at hoA ⊢
  rw [World.size_alloc] at hoA
  generalize w.heap.size + 1 = p2 at hoA ⊢
  generalize w.heap.size = p1 at hoA ⊢
  clear hmk
  refine wp_region_list (wpList_load_row rfl 69 (.tmp 1) rfl p1 rfl 69 (nums .u8 d).toArray (0, 0) _ (hoA.out.get 1 rfl) Try.underlying69 rfl (by rw [hcells.out]; exact info_as) ?_)
  go_wp2
  go_loopg [3, 8] 32 (fun g v3 v8 wx => ∃ (i n c : Nat) (A : Option Addr), i + g = 32 ∧ v3 = .slice A n c ∧ v8 = .int .i64 i ∧ Hidd (n = 2 * i) ∧ Hidd (Own w (fun _ => False) wx [row 5 1 (.slice A n c) n (nums .u8 (hexB (d.take i)))]))
  case atStart => exact ⟨0, 0, 64, _, by omega, rfl, rfl, ⟨rfl⟩, ⟨show Own w (fun _ => False) wa [row 5 1 (.slice (some ⟨p2, 0, none⟩) 0 64) 0 (nums .u8 [])] from hoA.out.reorder [0] rfl (by decide)⟩⟩
  case round =>
    clear hoA
    obtain ⟨i, n, c, A, hg, rfl, rfl, hn, ho⟩ := hrel
    cases gk with
    | succ g =>
      have d1 : decide ((i : Int) < 32) = true := by rw [decide_eq_true_eq]; omega
      have hx : d[i]? = some (d.getD i 0) := getD_some 0 (by rw [hd2.out]; omega)
      have hs := Hidd.mk (hexB_succ hx)
      have hid := idxS hd2.out hx
      obtain ⟨hx0, hx1⟩ := hb.out _ (List.mem_of_getElem? hx)
      generalize d.getD i 0 = x at hx hs hid hx0 hx1
      clear hx
      obtain ⟨b, rfl⟩ : ∃ b : Nat, x = b := ⟨x.toNat, by omega⟩
      have hb256 : b < 256 := by omega
      obtain ⟨hi, ehi⟩ : ∃ q, q = b / 16 := ⟨_, rfl⟩
      obtain ⟨lo, elo⟩ : ∃ q, q = b % 16 := ⟨_, rfl⟩
      have q1 : (b : Int) / 16 = (hi : Int) := by omega
      have q2 : bits .and .u8 (b : Int) 15 = (lo : Int) := by rw [u8_and15 b hb256, elo]
      have q3 := fun W => idxD hi (by omega) W
      have q4 := fun W => idxD lo (by omega) W
      rw [Int.toNat_natCast, ← ehi, ← elo] at hs
      obtain ⟨y1, ey1⟩ : ∃ y, y = hexD hi := ⟨_, rfl⟩
      obtain ⟨y2, ey2⟩ : ∃ y, y = hexD lo := ⟨_, rfl⟩
      rw [← ey1] at q3 hs
      rw [← ey2] at q4 hs
      unfold digitsB at q3 q4
      have hn2 := hn.out
      have hn64 : n ≤ 62 := by omega
      have hn3 : Hidd (n + 2 = 2 * (i + 1)) := ⟨by omega⟩
      have hgi : i + 1 + g = 32 := by omega
      have bi1 : (i : Int) + 1 ≤ 32 := by omega
      clear ey1 ey2 ehi elo hx0 hx1 hn2 hg
      go_wp2
      obtain ⟨W0, hW0⟩ : ∃ zz, zz = World.drew wr := ⟨_, rfl⟩
      refine wp_region_flow [([0, 1, 4, 2, 5, 3, 6], some (7, [true])), ([], some (8, [false, false])), ([9], none)] (by kernel_rfl) (by kernel_rfl) ?_
      rw [show ({ wr with drawn := wr.drawn + 1 } : World) = W0 from hW0.symm]
      replace hW0 := Hidd.mk hW0
      simp only [opsF, List.map_cons, List.map_nil, List.getD_cons_succ, List.getD_cons_zero, Option.map]
      have ho2 := Hidd.mk (show Own w _ W0 _ by rw [hW0.out]; exact ho.out.drew)
      clear hW0 ho
      have hl1 := row_lit ho2.out 5 1 2 #[.int .u8 y1, .int .u8 y2] (nums .u8 [y1, y2]) rfl rfl (by decide)
      refine FlW.stage (fun zz => Kept (fun _ => False) W0 zz) (Kept.refl _ _) ?_
      repeat (first | (refine StQ.skip (by rfl) ?_; simp only [Act.put, List.setIfInBounds_toArray, List.set_cons_zero, List.set_cons_succ]) | (refine StQ.go' (by rfl) (Exists.intro ?_ (And.intro (fun w' hS => ?_) ?_)); rotate_left; (focus (skip; go_simp; try with_reducible rfl)); simp only [Act.put, List.setIfInBounds_toArray, List.set_cons_zero, List.set_cons_succ]))
      refine StQ.nil ?_
      refine FlO.go (by rfl) (fun K hK => ?_); go_simp; refine hK.out _ _ (.inr ⟨Kept.alloc _ _ _, trivial⟩) ?_; clear hK K
      refine FlW.stage (fun _ => True) trivial (StQ.nil ?_)
      refine FlO.go (by rfl) (fun K hK => ?_)
      (refine appb_op _ _ rfl hl1 1 A n c _ rfl rfl _ 2 2 [y1, y2] rfl rfl (row_cells hl1 0 rfl) (by omega) ?_; intro A6 c6 w6 ho6 hk6)
      refine hK.out _ _ (.inr trivial) ?_
      clear hK K
      have ho7 := Hidd.mk ho6.tail
      clear ho6 hk6 hl1 ho2
      refine FlW.heads (fun zz => zz = _) rfl ?_
      repeat (first | (refine StQ.skip (by rfl) ?_; simp only [Act.put, List.setIfInBounds_toArray, List.set_cons_zero, List.set_cons_succ]) | (refine StQ.go' (by rfl) (Exists.intro ?_ (And.intro (fun w' hS => ?_) ?_)); rotate_left; (focus (rw [hS]; go_simp; try with_reducible rfl)); simp only [Act.put, List.setIfInBounds_toArray, List.set_cons_zero, List.set_cons_succ]))
      refine StQ.nil ?_
      refine FlW.nil (Calm.normal ?_)
      go_wp2
      go_roundg g
      case rel => exact ⟨i + 1, n + 2, c6, A6, hgi, rfl, by go_num, hn3, ⟨by rw [hs.out]; exact ho7.out⟩⟩
      case measure => omega
    | zero =>
      obtain rfl : i = 32 := by omega
      have d1 : decide ((32 : Int) < 32) = false := by decide
      have hlen : Hidd ((hexB d).length = n) := ⟨by rw [hexB_len, hd2.out, hn.out]⟩
      have ho2 : Hidd (Own w (fun _ => False) wr [row 5 1 (.slice A n c) n (nums .u8 (hexB d))]) := ⟨by
        have h := ho.out
        rw [List.take_of_length_le (by rw [hd2.out]; exact Nat.le_refl _)] at h
        exact h⟩
      have hcv := conv_str (P := Try.prog) (w := wr) (src := 67) (dst := 9) (e := 5) (A := A) (c := c) (xs := hexB d) Try.underlying67 Try.underlying5 Try.underlying9 (row_cells ho2.out 0 rfl)
      rw [hlen.out] at hcv
      clear ho hg hn
      go_wp2
      go_ret
      exact ⟨rfl, ho2.out.below fun _ => id⟩
theorem sha_bytes (bs : List Int) : ∀ x ∈ sha bs, 0 ≤ x ∧ x < 256 := by
  intro x hx
  rw [sha, outB, List.mem_flatMap] at hx
  obtain ⟨y, _, hy⟩ := hx
  simp only [List.mem_cons, List.not_mem_nil, or_false, byteOf] at hy
  rcases hy with rfl | rfl | rfl | rfl <;> omega
theorem awake18_any (w : World) : Calls Try.prog 26 #[] w fun e w' => e = .returned (.bool true) ∧ Below w.heap.size w w' := by
  have e1 := hex_nil
  have e2' := hex_abc
  rw [show "e3b0c44298fc1c149afbf4c8996fb92427ae41e4649b934ca495991b7852b855".toUTF8 = ⟨#[101, 51, 98, 48, 99, 52, 52, 50, 57, 56, 102, 99, 49, 99, 49, 52, 57, 97, 102, 98, 102, 52, 99, 56, 57, 57, 54, 102, 98, 57, 50, 52, 50, 55, 97, 101, 52, 49, 101, 52, 54, 52, 57, 98, 57, 51, 52, 99, 97, 52, 57, 53, 57, 57, 49, 98, 55, 56, 53, 50, 98, 56, 53, 53]⟩ by decide +kernel] at e1
  replace e1 := Hidd.mk e1
  have kc := fun (w : World) (C : Array Value) (n c : Nat) => Lib.run_convert_bytes_const (P := Try.prog) w 67 5 C n c Try.underlying67 Try.underlying5
  rw [show "ba7816bf8f01cfea414140de5dae2223b00361a396177a9cb410ff61f20015ad".toUTF8 = ⟨#[98, 97, 55, 56, 49, 54, 98, 102, 56, 102, 48, 49, 99, 102, 101, 97, 52, 49, 52, 49, 52, 48, 100, 101, 53, 100, 97, 101, 50, 50, 50, 51, 98, 48, 48, 51, 54, 49, 97, 51, 57, 54, 49, 55, 55, 97, 57, 99, 98, 52, 49, 48, 102, 102, 54, 49, 102, 50, 48, 48, 49, 53, 97, 100]⟩ by decide +kernel] at e2'
  replace e2 := Hidd.mk e2'
  go_enter Try.func26, Try.ntmps26
  go_wp2_with (first
    | (go_at_call 27; with_reducible refine (digestOf_any _ none 0 0 [] rfl (by decide) (Cells.nil _ _)).mono ?_; rintro e w1 ⟨rfl, hb1⟩; replace hb1 := Hidd.mk hb1)
    | (go_at_call 29; have hq := hb1.out; clear hq; refine (hex_any (sha []) (sha_len _) (sha_bytes _) _).mono ?_; rintro e w2 ⟨rfl, hb2⟩; replace hb2 := Hidd.mk (below_then hb1.out hb2); rw [e1.out]; clear hb1)
    | (go_at_call 27; have hq := hb2.out; clear hq; refine (digestOf_any _ (some ⟨w2.heap.size, 0, none⟩) 3 3 [97, 98, 99] rfl (by decide) (Cells.new _ _ _ _ rfl)).mono ?_; rintro e w3 ⟨rfl, hb3⟩; replace hb3 := Hidd.mk (below_then (below_alloc hb2.out _) hb3); clear hb2)
    | (go_at_call 29; have hq := hb3.out; clear hq; refine (hex_any (sha [97, 98, 99]) (sha_len _) (sha_bytes _) _).mono ?_; rintro e w4 ⟨rfl, hb4⟩; replace hb4 := Hidd.mk (below_then hb3.out hb4); rw [e2.out]; clear hb3))
  go_ret
  exact ⟨rfl, hb4.out⟩
end Go.Proofs.Ytpiahnecpbalhaa
