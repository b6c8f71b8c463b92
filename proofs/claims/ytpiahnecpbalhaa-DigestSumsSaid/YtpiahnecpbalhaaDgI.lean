/- DigestSums walked. -/
import Derived.Test.YtpiahnecpbalhaaDgH
import Derived.Room.AppendStr
namespace Go.Proofs.Ytpiahnecpbalhaa
open Go.RowKit Go.Lib

def spare : List Int := [115, 112, 97, 114, 101]
theorem spare_cells : strCells ⟨#[115, 112, 97, 114, 101]⟩ = nums .u8 spare := by rfl
theorem strOfNums_append (xs ys : List Int) : strOfNums (xs ++ ys) = strOfNums xs ++ strOfNums ys := by
  unfold strOfNums
  apply ByteArray.ext
  simp
theorem own_high {w : World} {e : TypeId} {size n : Nat} {v : Value} {xs : List Value} (h : w.ownsRow 0 e size v n xs) {K : Nat} (hB : ∀ k, v.ownBlock = some k → K ≤ k) : w.ownsRow K e size v n xs := by
  refine ⟨h.1, ?_⟩
  rcases h.2 with h2 | ⟨g, cap, cur, rfl, _, r⟩
  · exact .inl h2
  · exact .inr ⟨g, cap, cur, rfl, hB g rfl, r⟩
theorem own_low' {w : World} {K : Nat} {e : TypeId} {size n : Nat} {v : Value} {xs : List Value} (h : w.ownsRow K e size v n xs) : w.ownsRow 0 e size v n xs := by
  refine ⟨h.1, ?_⟩
  rcases h.2 with h2 | ⟨g, cap, cur, rfl, _, r⟩
  · exact .inl h2
  · exact .inr ⟨g, cap, cur, rfl, Nat.zero_le _, r⟩
theorem app_spare {w w0 : World} {ops : Array Oper} {rest : List Oper} {o : Oper} {a : Act} {Q : Exit → Act → World → Prop} (hgd : o.guard = none) (s x : Operand)
    (ho : o.op = .call { callee := .builtin .append, args := #[s, x], argTypes := #[67, 9] })
    (A : Option Addr) (n c : Nat) (xs : List Int) (hO : Own w0 (fun _ => False) w [row 5 1 (.slice A n c) n (nums .u8 xs)]) (hs : a.eval s = .slice A n c) (hx : a.eval x = .string ⟨#[115, 112, 97, 114, 101]⟩) (h63 : n + 5 ≤ 140737488355328)
    (h : ∀ A' c' w', Own w0 (fun _ => False) w' [row 5 1 (.slice A' (n + 5) c') (n + 5) (nums .u8 (xs ++ spare))] → wpList Try.prog ops Q rest (a.put o.dst (.slice A' (n + 5) c')) w') : wpList Try.prog ops Q (o :: rest) a w := by
  obtain ⟨i0, hi, hz0, hz1, hz2⟩ := info_parts info_u8
  have hge : ∀ k, (Value.slice A n c).ownBlock = some k → w0.heap.size ≤ k := fun k hk => (hO.own _ (List.mem_singleton.2 rfl) k hk).resolve_left id
  have hown := own_high (show w.ownsRow 0 5 1 (.slice A n c) n (nums .u8 xs) from hO.get 0 rfl) hge
  refine wpList_append_own_string (P := Try.prog) (w := w) hgd s x 67 9 ho w0.heap.size 5 i0 Try.underlying67 Try.underlying9 hi hz0 hz1 hz2 (.slice A n c) n (nums .u8 xs) hs hown ⟨#[115, 112, 97, 114, 101]⟩ hx ?_ ?_ hO.kept.size fun v' w' h1 h2 _ => ?_
  · show n + 5 ≤ maxLen
    unfold maxLen
    omega
  · show n + 5 ≤ 140737488355328
    omega
  · rw [spare_cells, ← nums_append] at h1
    obtain ⟨A', c', rfl, _, _, _⟩ := Cells.of_own h1
    refine h A' c' w' ⟨hO.kept.trans' (Kept.grown (S := fun k => (Value.slice A n c).ownBlock = some k) h2 fun k hk => hk) fun i hi hk => by have := hge i hk; omega, ?_, by simp, ?_⟩
    · intro r hr
      rw [List.mem_singleton] at hr
      subst hr
      exact own_low' h1
    · intro r hr i hri
      rw [List.mem_singleton] at hr
      subst hr
      exact .inr (h1.lt i hri).1
set_option maxRecDepth 100000
set_option maxHeartbeats 8000000
theorem digestSums_walk (a0 : Option Addr) (len0 cap0 : Nat) (z0 : List Int) (w : World) (h0 : IsRow .u8 w a0 len0 cap0 z0) (_ : len0 * 1 ≤ 140737488351232) :
    Calls Try.prog 9 #[.slice a0 len0 cap0] w fun e w' => e = .returned (.bool true) ∧ Below w.heap.size w w' := by
  obtain ⟨xs, hl, hc, _, hA, _⟩ := h0.open_
  clear h0
  replace hA := Hidd.mk hA
  replace hl := Hidd.mk hl
  by_cases hlong : 3000 < len0
  · have d1 : decide (3000 < len0) = true := decide_eq_true hlong
    go_enter Try.func9, Try.ntmps9
    go_wp2_with (go_at_call 26; refine (awake18_any _).mono ?_; rintro e w1 ⟨rfl, hb1⟩)
    go_ret
    exact ⟨rfl, hb1⟩
  · have d1 : decide (3000 < len0) = false := decide_eq_false hlong
    have hmk : ∀ W : World, (Instr.makeSlice 67 (.int .i64 0) (.int .i64 ((len0 : Int) + 9))).run Try.prog W = .ok (.slice (some ⟨W.heap.size, 0, none⟩) 0 (len0 + 9)) (W.alloc (.cells (madeCells #[.int .u8 0] (len0 + 9)) 5)) := fun W => make_room W (len0 + 9) (by omega)
    have hsl := sha_len xs
    have heq := fun W => eq_sha 68 Try.underlying68 (sha xs) hsl W
    clear hsl
    have hssz : (strOfNums xs).size = len0 := by have := hl.out; simp [strOfNums, ByteArray.size, this]
    have hspz : (⟨#[115, 112, 97, 114, 101]⟩ : ByteArray).size = 5 := rfl
    have hcat := Hidd.mk (show strOfNums xs ++ ⟨#[115, 112, 97, 114, 101]⟩ = strOfNums (xs ++ spare) by rw [strOfNums_append]; rfl)
    have hl5 : Hidd ((xs ++ spare).length = len0 + 5) := ⟨by rw [List.length_append, hl.out]; rfl⟩
    have bl0 : (0 : Int) ≤ (len0 : Int) := by omega
    go_enter Try.func9, Try.ntmps9
    go_wp2_with (first
      | (go_at_call 26; refine (awake18_any _).mono ?_; rintro e w1 ⟨rfl, hb1⟩; have ho1 := Hidd.mk (row_room ((Own.nil w (fun _ => False)).ext hb1) (len0 + 9) (by unfold maxLen; omega)); clear hb1)
      | (at_builtin; have hq := ho1.out; clear hq; refine appb rfl _ _ rfl ho1.out 0 _ 0 _ [] rfl rfl a0 len0 cap0 xs rfl hl.out (hA.out.below (ho1.out.below fun _ => id)) (by omega) ?_; intro A2 c2 w2 ho2; rw [Nat.zero_add] at ho2 ⊢; rw [List.nil_append] at ho2; replace ho2 := Hidd.mk ho2; clear ho1)
      | (at_builtin; have hq := ho2.out; clear hq; refine app_spare rfl _ _ rfl A2 len0 c2 xs ho2.out rfl rfl (by omega) ?_; intro A3 c3 w3 ho3; have hcp := row_le ho3 0 rfl; have hcp2 : len0 ≤ c3 := (by (have := hcp.1; omega)); have hcp3 : (len0 : Int) ≤ (c3 : Int) := (by omega); clear hcp; replace ho3 := Hidd.mk ho3; clear ho2)
      | (go_at_call 27; have hq := ho3.out; clear hq; refine (digestOf_any _ A3 len0 c3 xs hl.out (by omega) (by have := (row_cells ho3.out 0 rfl).take len0; rw [← nums_take, List.take_left' hl.out] at this; exact this)).mono ?_; rintro e w5 ⟨rfl, hb5⟩; have ho5 := Hidd.mk (ho3.out.ext hb5); clear ho3 hb5)
      | (go_at_call 28; have hq := ho5.out; clear hq; refine (refOf_any _ a0 len0 cap0 xs hl.out (by omega) (hA.out.below (ho5.out.below fun _ => id))).mono ?_; rintro e w6 ⟨rfl, hb6⟩; have ho6 := Hidd.mk (ho5.out.ext hb6); have hcv1 := conv_str (P := Try.prog) (w := w6) (src := 67) (dst := 9) (e := 5) (A := A3) (c := c3) (xs := xs ++ spare) Try.underlying67 Try.underlying5 Try.underlying9 (row_cells ho6.out 0 rfl); rw [hl5.out] at hcv1; have hcv2 := conv_str (P := Try.prog) (w := w6) (src := 67) (dst := 9) (e := 5) (A := a0) (c := cap0) (xs := xs) Try.underlying67 Try.underlying5 Try.underlying9 (hA.out.below (ho6.out.below fun _ => id)); rw [hl.out] at hcv2; clear ho5 hb6))
    go_ret
    exact ⟨by first | rfl | (refine ret_true ?_; simp [hcat.out]), ho6.out.below fun _ => id⟩
end Go.Proofs.Ytpiahnecpbalhaa
