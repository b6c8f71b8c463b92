/- Contract of the law's reading of an error as a text. -/
import Derived.Test.YtjbhcmkloamcmaaTxt
import Derived.Deep.RegionWith
namespace Go.Proofs.Ytjbhcmkloamcmaa
open Go.RowKit

/-- An error value: the faults from the outermost on (code, place), and what stands at the root: none, or an Errno. -/
def IsErr (w : World) : List (Int × Int) → Option Int → Value → Prop
  | [], none, v => v = .nilIface
  | [], some c, v => v = .iface 66 (.int .i64 c)
  | (c, a) :: l, r, v => ∃ b cv, v = .iface 86 (.pointer (some ⟨b, 0, none⟩)) ∧ w.heap[b]? = some (.cells #[.int .i64 c, .int .i64 a, cv] 88 (0, 0)) ∧ IsErr w l r cv

theorem IsErr.below {w w1 : World} (hb : Below w.heap.size w w1) : ∀ {l : List (Int × Int)} {r : Option Int} {v : Value}, IsErr w l r v → IsErr w1 l r v
  | [], none, _, h => h
  | [], some _, _, h => h
  | (_, _) :: _, _, _, ⟨b, cv, e, hc, h⟩ => ⟨b, cv, e, (hb.block b (Array.getElem?_eq_some_iff.1 hc).1).trans hc, h.below hb⟩

def sepB : ByteArray := ⟨#[62]⟩
/-- The text behind the first number. -/
def errTail : List (Int × Int) → Option Int → ByteArray
  | [], none => ⟨#[]⟩
  | [], some c => sepB ++ numB c
  | (c, a) :: l, r => sepB ++ atB c a ++ errTail l r
/-- An error as a text. -/
def errB : List (Int × Int) → Option Int → ByteArray
  | [], none => ⟨#[]⟩
  | [], some c => numB c
  | (c, a) :: l, r => atB c a ++ errTail l r

theorem errTail_cons (c a : Int) (l : List (Int × Int)) (r : Option Int) : errTail ((c, a) :: l) r = sepB ++ atB c a ++ errTail l r := by rw [errTail]

/-- What may stand in an error. -/
def OkErr (l : List (Int × Int)) (r : Option Int) : Prop := l.length ≤ 20 ∧ (∀ p ∈ l, p.1 ≠ 0 ∧ -9223372036854775808 < p.1 ∧ p.1 ≤ 9223372036854775807 ∧ -1 ≤ p.2 ∧ p.2 ≤ 9223372036854775807) ∧ ∀ c ∈ r, -9223372036854775808 < c ∧ c ≤ 9223372036854775807

theorem sep_size : sepB.size = 1 := rfl

set_option maxRecDepth 100000 in
set_option maxHeartbeats 2000000 in
theorem read_any (l0 : List (Int × Int)) (r0 : Option Int) (v0 : Value) (w : World) (he : IsErr w l0 r0 v0) (hok : OkErr l0 r0) :
    Calls Try.prog 19 #[v0] w fun e w' => e = .returned (.string (errB l0 r0)) ∧ Below w.heap.size w w' := by
  obtain ⟨ok1, ok2, ok3⟩ := hok
  have OK2 := Hidd.mk ok2
  have OK3 := Hidd.mk ok3
  have HE := Hidd.mk he
  clear ok2 ok3 he
  have hta1 : ∀ (v : Value) (W : World), (Instr.typeAssert (.iface 66 v) 27 66 true).run Try.prog W = .ok (.tuple #[v, .bool true]) W := fun v W => by rfl
  have hta2 : ∀ (v : Value) (W : World), (Instr.typeAssert (.iface 86 v) 27 66 true).run Try.prog W = .ok (.tuple #[.int .i64 0, .bool false]) W := fun v W => by rfl
  have hta3 : ∀ (v : Value) (W : World), (Instr.typeAssert (.iface 86 v) 27 86 true).run Try.prog W = .ok (.tuple #[v, .bool true]) W := fun v W => by rfl
  go_enter Try.func19, Try.ntmps19
  go_wp2
  go_loopw [0, 3, 4] (fun u0 u3 u4 wr => ∃ (l : List (Int × Int)) (n : Nat) (s : ByteArray), u3 = .string s ∧ u4 = .int .i64 n ∧ n + l.length ≤ 20 ∧ s.size ≤ 44 * n ∧ Hidd (IsErr wr l r0 u0) ∧ Hidd (∀ p ∈ l, p ∈ l0) ∧ Hidd (s ++ (if n = 0 then errB l r0 else errTail l r0) = errB l0 r0) ∧ Below w.heap.size w wr) (fun _ _ u4 _ => 21 - (intOf u4).toNat)
  case atStart => exact ⟨l0, 0, ⟨#[]⟩, rfl, rfl, by omega, Nat.le_refl _, HE, ⟨fun _ h => h⟩, ⟨by rw [if_pos rfl]; exact ByteArray.empty_append ..⟩, Below.refl _ _⟩
  case round =>
    obtain ⟨l, n, s, rfl, rfl, hn, hs, he, hm, ht, hb⟩ := hrel
    have sep1 := sep_size
    unfold sepB at sep1
    have hd20 : decide (20 < n) = false := by simp; omega
    by_cases hn0 : n = 0
    · have hd0 : decide (0 < n) = false := by simp; omega
      obtain rfl : s = ⟨#[]⟩ := by
        rcases s with ⟨⟨_ | _⟩⟩
        · rfl
        · simp [ByteArray.size] at hs; omega
      have ht2 := ht.out
      rw [if_pos hn0] at ht2
      have HT := Hidd.mk ((show (⟨#[]⟩ : ByteArray) ++ errB l r0 = errB l r0 from ByteArray.empty_append ..).symm.trans ht2)
      have HN := Hidd.mk hn0
      clear ht ht2 hs hn0
      rcases l with _ | ⟨⟨c, a⟩, l⟩
      · rcases r0 with _ | c
        · obtain rfl := he.out
          go_wp2
          go_ret
          exact ⟨ret_str HT.out, hb⟩
        · obtain rfl := he.out
          have hc := OK3.out c rfl
          have hs1 := numB_size c
          go_wp2_with (go_at_call 28; refine (e_any c _ hc.1 hc.2).mono ?_; rintro e w1 ⟨rfl, hb1⟩)
          go_ret
          exact ⟨ret_str ((show (⟨#[]⟩ : ByteArray) ++ numB c = numB c from ByteArray.empty_append ..).trans HT.out), below_then hb hb1⟩
      · obtain ⟨b, cv, rfl, hc, he2⟩ := he.out
        obtain ⟨k1, k2, k3, k4, k5⟩ := OK2.out (c, a) (hm.out _ (List.mem_cons_self ..))
        simp only at k1 k2 k3 k4 k5
        have hc0 : wr.cell? ⟨b, 0, none⟩ = some (.int .i64 c) := cell_of_row wr b 0 _ _ _ hc
        have hc1 : wr.cell? ⟨b, 1, none⟩ = some (.int .i64 a) := cell_of_row wr b 1 _ _ _ hc
        have hc2 : wr.cell? ⟨b, 2, none⟩ = some cv := cell_of_row wr b 2 _ _ _ hc
        have hcd : (c == 0) = false := by simp [k1]
        have had : decide (a < -1) = false := by simp; omega
        have hsa := atB_size c a
        clear k1
        have hlt : b < wr.heap.size := (Array.getElem?_eq_some_iff.1 hc).1
        go_wp2
        go_region_with (go_at_call 22; refine (at_any c a _ k2 k3 (by omega) k5).mono ?_; rintro e w1 ⟨rfl, hb1⟩)
        all_goals
          replace hb1 : Below wr.heap.size wr w1 := below_of_drew hb1
          have hc3 : w1.cell? ⟨b, 2, none⟩ = some cv := (hb1.cell (p := ⟨b, 2, none⟩) hlt).trans hc2
          go_wp2
          go_roundw
          case rel =>
            refine ⟨l, n + 1, ⟨#[]⟩ ++ atB c a, rfl, by simp, ?_, ?_, ⟨he2.below (hb1.mono ?_)⟩, ⟨fun p hp => hm.out p (List.mem_cons_of_mem _ hp)⟩, ⟨?_⟩, below_then hb hb1⟩
            · simp at hn; omega
            · rw [ByteArray.size_append]; show 0 + _ ≤ _; omega
            · exact Nat.le_refl _
            · rw [if_neg (by omega), ← HT.out, show (⟨#[]⟩ : ByteArray) ++ atB c a = atB c a from ByteArray.empty_append .., errB]
          case measure => simp [intOf]; simp at hn; omega
    · have hd0 : decide (0 < n) = true := by simp; omega
      have ht2 := ht.out
      rw [if_neg hn0] at ht2
      have HT := Hidd.mk ht2
      have HN := Hidd.mk hn0
      clear ht ht2 hn0
      rcases l with _ | ⟨⟨c, a⟩, l⟩
      · rcases r0 with _ | c
        · obtain rfl := he.out
          have hh : s ++ errTail [] none = s := ByteArray.append_empty ..
          go_wp2
          go_ret
          exact ⟨ret_str (hh.symm.trans HT.out), hb⟩
        · obtain rfl := he.out
          have hc := OK3.out c rfl
          have hs1 := numB_size c
          have hs2 : (s ++ ⟨#[62]⟩).size = s.size + 1 := by rw [ByteArray.size_append, sep1]
          have HT2 := Hidd.mk (show s ++ ⟨#[62]⟩ ++ numB c = errB l0 (some c) from by rw [← HT.out, ByteArray.append_assoc]; rfl)
          go_wp2_with (go_at_call 28; refine (e_any c _ hc.1 hc.2).mono ?_; rintro e w1 ⟨rfl, hb1⟩)
          go_ret
          exact ⟨ret_str HT2.out, below_then hb hb1⟩
      · obtain ⟨b, cv, rfl, hc, he2⟩ := he.out
        obtain ⟨k1, k2, k3, k4, k5⟩ := OK2.out (c, a) (hm.out _ (List.mem_cons_self ..))
        simp only at k1 k2 k3 k4 k5
        have hc0 : wr.cell? ⟨b, 0, none⟩ = some (.int .i64 c) := cell_of_row wr b 0 _ _ _ hc
        have hc1 : wr.cell? ⟨b, 1, none⟩ = some (.int .i64 a) := cell_of_row wr b 1 _ _ _ hc
        have hc2 : wr.cell? ⟨b, 2, none⟩ = some cv := cell_of_row wr b 2 _ _ _ hc
        have hcd : (c == 0) = false := by simp [k1]
        have had : decide (a < -1) = false := by simp; omega
        have hsa := atB_size c a
        have hs2 : (s ++ ⟨#[62]⟩).size = s.size + 1 := by rw [ByteArray.size_append, sep1]
        have HT2 := Hidd.mk (show s ++ ⟨#[62]⟩ ++ atB c a ++ errTail l r0 = errB l0 r0 from by rw [← HT.out, errTail_cons, ByteArray.append_assoc, ByteArray.append_assoc, ByteArray.append_assoc]; rfl)
        clear k1
        have hlt : b < wr.heap.size := (Array.getElem?_eq_some_iff.1 hc).1
        go_wp2
        go_region_with (go_at_call 22; refine (at_any c a _ k2 k3 (by omega) k5).mono ?_; rintro e w1 ⟨rfl, hb1⟩)
        all_goals
          replace hb1 : Below wr.heap.size wr w1 := below_of_drew hb1
          have hc3 : w1.cell? ⟨b, 2, none⟩ = some cv := (hb1.cell (p := ⟨b, 2, none⟩) hlt).trans hc2
          go_wp2
          go_roundw
          case rel =>
            refine ⟨l, n + 1, s ++ ⟨#[62]⟩ ++ atB c a, rfl, by simp, ?_, ?_, ⟨he2.below (hb1.mono ?_)⟩, ⟨fun p hp => hm.out p (List.mem_cons_of_mem _ hp)⟩, ⟨?_⟩, below_then hb hb1⟩
            · simp at hn; omega
            · rw [ByteArray.size_append]; omega
            · exact Nat.le_refl _
            · rw [if_neg (by omega)]; exact HT2.out
          case measure => simp [intOf]; simp at hn; omega

end Go.Proofs.Ytjbhcmkloamcmaa
