/- QueueFull walked. -/
import Derived.Test.YtjejkmnlkmcckaaQuA
namespace Go.Proofs.Ytjejkmnlkmcckaa
open Go.RowKit

theorem isHeap_nil : IsHeap [] := fun j _ h => by simp at h
theorem qput_heap {l : List It} (h : IsHeap l) (e0 e1 e2 : Int) (n : Nat) : IsHeap (qput l e0 e1 e2 n) ∧ (qput l e0 e1 e2 n).Perm (⟨e0, e1, e2, ((n + 1 : Nat) : Int)⟩ :: l) := put_heap h _ rfl
theorem qtake_heap {l : List It} {last : Nat} {z y : It} (h : IsHeap l) (hl : l.length = last + 1) (hz : l[0]? = some z) (hy : l[last]? = some y) :
    IsHeap (qtake l y) ∧ (z :: qtake l y).Perm l ∧ ∀ x ∈ l, le z x := by
  have := take_heap h hl hz hy
  unfold qtake
  rw [show l.length - 1 = last by omega]
  exact this
theorem Own.qlen {w0 w : World} {S : Nat → Prop} {L : List Res} {b : Nat} {A : Option Addr} {len cap : Nat} {l : List It} {n : Nat} (k : Nat) (h : Own w0 S w L) (hk : L[k]? = some (qres b A len cap l n)) : l.length = len :=
  (show QIn w 0 b A len cap l n from h.get k hk).ll

set_option maxRecDepth 100000 in
theorem queueFull_walk (a0 a1 : Int) (w : World) (_ : (Lit.int .i64 a0).wf = true) (_ : (Lit.int .i64 a1).wf = true) :
    Calls Try.prog 4 #[.int .i64 a0, .int .i64 a1] w fun e w' => e = .returned (.bool true) ∧ Below w.heap.size w w' := by
  go_enter Try.func4, Try.ntmps4
  go_wp2_with (first
    | (go_at_call 13; refine (awake_any _).mono ?_; rintro e w1 ⟨rfl, hb1⟩; have ho1 := Hidd.mk ((Own.nil w (fun _ => False)).ext hb1); clear hb1)
    | (go_at_call 14; refine (new_own _).mono ?_; rintro e w2 ⟨b, rfl, hn2⟩; have ho2 := Hidd.mk (ho1.out.made hn2); clear hn2))
  go_loopw [6] (fun v6 wr => ∃ (i : Nat) (A : Option Addr) (cap : Nat) (l : List It), v6 = .int .i64 i ∧ i ≤ 4096 ∧ Hidd (Own w (fun _ => False) wr [qres b A i cap l i] ∧ IsHeap l)) (fun v6 _ => 4096 - (intOf v6).toNat)
  case atStart => exact ⟨0, none, 0, [], rfl, by decide, ⟨ho2.out, isHeap_nil⟩⟩
  case round =>
    clear ho2
    obtain ⟨i, A, cap, l, rfl, hi, hoo⟩ := hrel
    have ho := Hidd.mk hoo.out.1
    have hh := Hidd.mk hoo.out.2
    clear hoo
    by_cases hlt : i < 4096
    · go_wp2_with (go_at_call 15; refine (put_own 0 ho.out rfl _ _ _ (by omega) (by omega)).mono ?_; rintro e w5 ⟨rfl, A', cap', ho5⟩; replace ho5 := Hidd.mk ho5)
      go_roundw
      case rel => exact ⟨i + 1, A', cap', _, by go_num, by omega, ⟨ho5.out, (qput_heap hh.out _ _ _ _).1⟩⟩
      case measure => simp [intOf]; omega
    · obtain rfl : i = 4096 := by omega
      have hll := Hidd.mk (ho.out.qlen 0 rfl)
      obtain ⟨z, hz⟩ : ∃ z, l[0]? = some z := ⟨_, List.getElem?_eq_getElem (by rw [hll.out]; decide)⟩
      obtain ⟨y, hy⟩ : ∃ z, l[4095]? = some z := ⟨_, List.getElem?_eq_getElem (by rw [hll.out]; decide)⟩
      obtain ⟨q1, q2, q3⟩ := qtake_heap hh.out (last := 4095) hll.out hz hy
      have q4 := q3 z (List.mem_of_getElem? hz)
      obtain ⟨z0, z1, z2, z3⟩ := z
      have q5 : Hidd (∀ x ∈ qtake l y, z0 ≤ x.at_) := ⟨fun x hx => by have h := q3 x (q2.mem_iff.1 (List.mem_cons_of_mem _ hx)); rw [le_iff] at h; simp only at h; omega⟩
      replace q1 := Hidd.mk q1
      replace hz := Hidd.mk hz
      replace hy := Hidd.mk hy
      clear q2 q3 q4
      go_wp2_with (first
        | (go_at_call 15; with_reducible refine (full_own 0 ho.out rfl _ _ _ (by decide)).mono ?_; rintro e w5 ⟨rfl, ho5⟩; replace ho5 := Hidd.mk ho5)
        | (go_at_call 16; with_reducible refine (take_own 0 ho5.out rfl (last := 4095) (by decide) hz.out hy.out).mono ?_; rintro e w6 ⟨rfl, ho6⟩; replace ho6 := Hidd.mk (ho6.alloc (.cells #[.int .i64 z0, .int .i64 z1, .int .i64 z2] 28)))
        | (go_at_call 15; with_reducible refine (put_own 1 ho6.out rfl z0 0 (-1) (by decide) (by decide)).mono ?_; rintro e w7 ⟨rfl, A', cap', ho7⟩; replace ho7 := Hidd.mk ho7)
        | (go_at_call 17; refine (readNil 11 (by decide) (by decide) _).mono ?_; rintro e w8 ⟨rfl, hb8⟩; replace hb8 := Hidd.mk hb8)
        | (go_at_call 18; refine (e_any 11 _ (by decide) (by decide)).mono ?_; rintro e w9 ⟨rfl, hb9⟩; have ho9 := Hidd.mk (ho7.out.ext (below_then hb8.out hb9)); clear hb9))
      clear ho ho5 ho6 ho7 hz hy hll hb8
      have hput := qput_heap q1.out z0 0 (-1) 4096
      have hup : Hidd (∀ x ∈ qput (qtake l y) z0 0 (-1) 4096, z0 ≤ x.at_) := ⟨fun x hx => by
        rcases List.mem_cons.1 (hput.2.mem_iff.1 hx) with rfl | hx
        · exact Int.le_refl _
        · exact q5.out x hx⟩
      have hhp := Hidd.mk hput.1
      clear hput q1 q5
      generalize qput (qtake l y) z0 0 (-1) 4096 = lq at ho9 hup hhp
      obtain ⟨v, hv⟩ : ∃ v, w6.heap.size = v := ⟨_, rfl⟩
      rw [hv] at ho9 ⊢
      clear hv
      go_loopw [8, 9] (fun v8 v9 wr => ∃ (n m : Nat) (la : Int) (A : Option Addr) (cap : Nat) (l' : List It) (c0 c1 c2 : Int), v9 = .int .i64 n ∧ v8 = .int .i64 la ∧ n + m = 4096 ∧ Hidd (Own w (fun _ => False) wr [blk v (.cells #[.int .i64 c0, .int .i64 c1, .int .i64 c2] 28), qres b A m cap l' 4097]) ∧ Hidd (IsHeap l') ∧ Hidd (0 < n → ∀ x ∈ l', la ≤ x.at_)) (fun _ v9 _ => 4096 - (intOf v9).toNat)
      case atStart => exact ⟨0, 4096, 0, A', cap', lq, z0, z1, z2, rfl, rfl, rfl, ho9, hhp, ⟨fun h => absurd h (by decide)⟩⟩
      case round =>
        clear ho9 hhp hup
        obtain ⟨n, m, la, A, cap, l', c0, c1, c2, rfl, rfl, hnm, ho, hh, hup⟩ := hrel
        rcases m with _ | m
        · obtain rfl : n = 4096 := by omega
          go_wp2_with (go_at_call 19; refine (len_own 1 ho.out rfl).mono ?_; rintro e w10 ⟨rfl, rfl⟩)
          go_ret
          exact ⟨rfl, ho.out.below (fun _ => id)⟩
        · have hll := Hidd.mk (ho.out.qlen 1 rfl)
          obtain ⟨z, hz⟩ : ∃ z, l'[0]? = some z := ⟨_, List.getElem?_eq_getElem (by rw [hll.out]; omega)⟩
          obtain ⟨y, hy⟩ : ∃ z, l'[m]? = some z := ⟨_, List.getElem?_eq_getElem (by rw [hll.out]; omega)⟩
          obtain ⟨q1, q2, q3⟩ := qtake_heap hh.out hll.out hz hy
          have q6 := hup.out
          have q4 : 0 < n → la ≤ z.at_ := fun h => q6 h z (List.mem_of_getElem? hz)
          obtain ⟨z0, z1, z2, z3⟩ := z
          have q5 : Hidd (0 < n + 1 → ∀ x ∈ qtake l' y, z0 ≤ x.at_) := ⟨fun _ x hx => by have h := q3 x (q2.mem_iff.1 (List.mem_cons_of_mem _ hx)); rw [le_iff] at h; simp only at h; omega⟩
          simp only at q4
          replace q1 := Hidd.mk q1
          replace hz := Hidd.mk hz
          replace hy := Hidd.mk hy
          clear q2 q3 q6
          have hmm : decide ((0 : Int) < (m : Int) + 1) = true := by rw [decide_eq_true_eq]; omega
          have hf0 := ho.out.frozen 0 rfl 0
          by_cases hn0 : n = 0
          · subst hn0
            clear q4
            go_wp2_with (first
              | (go_at_call 19; refine (len_own 1 ho.out rfl).mono ?_; rintro e w10 ⟨rfl, rfl⟩)
              | (go_at_call 16; refine (take_own 1 ho.out rfl (last := m) (by omega) hz.out hy.out).mono ?_; rintro e w11 ⟨rfl, ho11⟩; have x0 := ho11.cell 0 rfl 0; have x1 := ho11.cell 0 rfl 1; have x2 := ho11.cell 0 rfl 2; have f0 := ho11.frozen 0 rfl 0; have f1 := ho11.frozen 0 rfl 1; have f2 := ho11.frozen 0 rfl 2; simp at x0 x1 x2; replace ho11 := Hidd.mk (((ho11.set 0 rfl 0 (.int .i64 z0)).set 0 rfl 1 (.int .i64 z1)).set 0 rfl 2 (.int .i64 z2))))
            go_roundw
            case rel => exact ⟨1, m, z0, A, cap, _, z0, z1, z2, rfl, rfl, by omega, ho11, q1, q5⟩
            case measure => simp [intOf]
          · have hn1 : decide ((0 : Int) < (n : Int)) = true := by simp; omega
            have hza : decide (z0 < la) = false := by have := q4 (by omega); simp; omega
            have hpos : 0 < n := by omega
            clear q4 hn0
            go_wp2_with (first
              | (go_at_call 19; refine (len_own 1 ho.out rfl).mono ?_; rintro e w10 ⟨rfl, rfl⟩)
              | (go_at_call 16; refine (take_own 1 ho.out rfl (last := m) (by omega) hz.out hy.out).mono ?_; rintro e w11 ⟨rfl, ho11⟩; have x0 := ho11.cell 0 rfl 0; have x1 := ho11.cell 0 rfl 1; have x2 := ho11.cell 0 rfl 2; have f0 := ho11.frozen 0 rfl 0; have f1 := ho11.frozen 0 rfl 1; have f2 := ho11.frozen 0 rfl 2; simp at x0 x1 x2; replace ho11 := Hidd.mk (((ho11.set 0 rfl 0 (.int .i64 z0)).set 0 rfl 1 (.int .i64 z1)).set 0 rfl 2 (.int .i64 z2))))
            go_roundw
            case rel => exact ⟨n + 1, m, z0, A, cap, _, z0, z1, z2, by go_num, rfl, by omega, ho11, q1, q5⟩
            case measure => simp [intOf]; omega
end Go.Proofs.Ytjejkmnlkmcckaa
