/- DigestEnds walked. -/
import Derived.Test.YtpiahnecpbalhaaDgG
import Derived.Test.YtpiahnecpbalhaaDgF
namespace Go.Proofs.Ytpiahnecpbalhaa
open Go.RowKit

theorem make_bytes (w : World) (n : Nat) (hn : n ≤ 140737488355328) :
    (Instr.makeSlice 67 (.int .i64 (n : Int)) (.int .i64 (n : Int))).run Try.prog w = .ok (.slice (some ⟨w.heap.size, 0, none⟩) n n) (w.alloc (.cells (madeCells #[.int .u8 0] n) 5)) := by
  obtain ⟨i0, hi, hz0, hz1, hz2⟩ := info_parts info_u8
  have hr := run_make (P := Try.prog) w 67 5 i0 (.int .u8 0) Try.underlying67 hi hz0 .i64 .i64 n n (by omega) (Int.le_refl _) (by rw [hz2]; omega) (by omega)
  rw [hz1] at hr
  simpa [Value.cells] using hr
theorem made_bytes (n : Nat) : madeCells #[.int .u8 0] n = (nums .u8 (List.replicate n 0)).toArray := by
  simp only [madeCells, nums]
  apply Array.ext
  · simp
  · intro i h1 h2
    simp [Nat.mod_one]
set_option maxRecDepth 100000
set_option maxHeartbeats 8000000
theorem digestEnds_walk (a0 a1 : Int) (w : World) (_ : (Lit.int .i64 a0).wf = true) (_ : (Lit.int .u8 a1).wf = true) :
    Calls Try.prog 10 #[.int .i64 a0, .int .u8 a1] w fun e w' => e = .returned (.bool true) ∧ Below w.heap.size w w' := by
  obtain ⟨n, hn, hn1⟩ : ∃ n : Nat, n < 260 ∧ IntKind.u64.wrap a0 % 260 = (n : Int) := ⟨(IntKind.u64.wrap a0 % 260).toNat, by rw [IntKind.wrap_u64]; omega, by rw [IntKind.wrap_u64]; omega⟩
  have hn2 : (IntKind.u64.wrap a0).tmod 260 = (n : Int) := by rw [Int.tmod_eq_emod_of_nonneg (by rw [IntKind.wrap_u64]; omega), hn1]
  have hmk := fun W => make_bytes W n (by omega)
  obtain ⟨z, hz⟩ : ∃ z, z = (nums .u8 (List.replicate n 0)).toArray := ⟨_, rfl⟩
  rw [made_bytes, ← hz] at hmk
  have heq := eq_sha 68 Try.underlying68
  go_enter Try.func10, Try.ntmps10
  go_wp2_with (go_at_call 26; refine (awake18_any _).mono ?_; rintro e w1 ⟨rfl, hb1⟩; have ho := Hidd.mk (((Own.nil w (fun _ => False)).ext hb1).alloc (.cells (nums .u8 (List.replicate n 0)).toArray 5 (0, 0))))
  clear hmk hn1 hn2 hb1
  clear hz
  generalize w1.heap.size = p at ho ⊢
  generalize World.alloc w1 _ = wa at ho ⊢
  go_loopg [17] n (fun g v17 wx => ∃ (i : Nat), i + g = n ∧ v17 = .int .i64 i ∧ Hidd (Own w (fun _ => False) wx [blk p (.cells (nums .u8 (List.replicate i a1 ++ List.replicate (n - i) 0)).toArray 5 (0, 0))]))
  case atStart => exact ⟨0, by omega, rfl, ho⟩
  case round =>
    clear ho
    obtain ⟨i, hg, rfl, ho⟩ := hrel
    cases gk with
    | succ g =>
      have d1 : decide (i < n) = true := by rw [decide_eq_true_eq]; omega
      have bi0 : (0 : Int) ≤ (i : Int) := by omega
      have bi1 : (i : Int) < (n : Int) := by omega
      have hx : (List.replicate i a1 ++ List.replicate (n - i) 0)[i]? = some (0 : Int) := by
        rw [List.getElem?_append_right (by simp), List.length_replicate, Nat.sub_self, show n - i = (n - (i + 1)) + 1 by omega]
        rfl
      have hs : (List.replicate i a1 ++ List.replicate (n - i) (0 : Int)).set i a1 = List.replicate (i + 1) a1 ++ List.replicate (n - (i + 1)) 0 := by
        rw [List.set_append_right _ _ (by simp), List.length_replicate, Nat.sub_self, show n - i = (n - (i + 1)) + 1 by omega, List.replicate_succ, List.set_cons_zero, List.replicate_succ', List.append_assoc]
        rfl
      replace hs := Hidd.mk hs
      have c0 := (ho.out.cell 0 rfl i).trans (nums_getA hx)
      have f0 := ho.out.frozen 0 rfl i
      have ho2 := Hidd.mk (ho.out.set 0 rfl i (.int .u8 a1))
      have hgi : i + 1 + g = n := by omega
      clear hx hg
      go_wp2
      go_roundg g
      case rel =>
        refine ⟨i + 1, hgi, by go_num, ⟨?_⟩⟩
        have h2 := ho2.out
        rw [List.set_cons_zero, nums_setA, hs.out] at h2
        exact h2
      case measure => omega
    | zero =>
      obtain rfl : i = n := by omega
      have d1 : decide (i < i) = false := by simp
      have ho2 : Hidd (Own w (fun _ => False) wr [blk p (.cells (nums .u8 (List.replicate i a1)).toArray 5 (0, 0))]) := ⟨by
        have h := ho.out
        rw [Nat.sub_self, List.replicate_zero, List.append_nil] at h
        exact h⟩
      have hl : Hidd ((List.replicate i a1).length = i) := ⟨List.length_replicate⟩
      obtain ⟨bs, hbs⟩ : ∃ b, b = List.replicate i a1 := ⟨_, rfl⟩
      rw [← hbs] at ho2 hl
      clear ho hg hbs
      have hsl := sha_len bs
      replace heq := fun W => heq (sha bs) hsl W
      clear hsl
      go_wp2_with (first
        | (go_at_call 27; have hq := ho2.out; clear hq; refine (digestOf_any _ (some ⟨p, 0, none⟩) i i bs hl.out (by omega) (Cells.of_block (ho2.out.get 0 rfl))).mono ?_; rintro e w5 ⟨rfl, hb5⟩; have ho3 := Hidd.mk (ho2.out.ext hb5); clear ho2 hb5)
        | (go_at_call 28; have hq := ho3.out; clear hq; refine (refOf_any _ (some ⟨p, 0, none⟩) i i bs hl.out (by omega) (Cells.of_block (ho3.out.get 0 rfl))).mono ?_; rintro e w6 ⟨rfl, hb6⟩; have ho4 := Hidd.mk (ho3.out.ext hb6); clear ho3 hb6))
      go_ret
      exact ⟨rfl, ho4.out.below fun _ => id⟩
end Go.Proofs.Ytpiahnecpbalhaa
