/- The reference's Trail: the numbers of an error's text. -/
import Derived.Test.YtpiahnecpbalhaaHeB
import Derived.Test.YtpiahnecpbalhaaAppR
import Derived.Deep.DeepCutAuto
namespace Go.Proofs.Ytpiahnecpbalhaa
open Go.RowKit
/-- The numbers that a text still yields, behind a number begun (or none) and a place; the text ends with 62. -/
def trR : List Int → Int → Bool → Bool → Option (List Int)
  | [], _, _, _ => some []
  | x :: xs, n, d, p =>
    if x = 62 then (trR xs 0 false false).map fun l => if d = true then n :: l else l
    else if x = 64 then trR xs n d true
    else if p = false ∧ 48 ≤ x ∧ x ≤ 57 then (if 10 * n + (x - 48) ≤ 1000000 then trR xs (10 * n + (x - 48)) true p else none)
    else trR xs n d p
theorem sget {l : List Int} {i : Nat} {x : Int} (h : l[i]? = some x) : (strOfNums l)[i]? = some (UInt8.ofNat x.toNat) := by
  have hi := (List.getElem?_eq_some_iff.1 h).1
  have hs : i < (strOfNums l).size := by rw [strOfNums_size]; exact hi
  rw [getElem?_pos (strOfNums l) i hs, ByteArray.getElem_eq_getElem_data]
  congr 1
  have e : l[i] = x := by rw [List.getElem?_eq_getElem hi] at h; injection h
  simp [strOfNums, e]
theorem idx_str {l : List Int} {i : Nat} {x : Int} (h : l[i]? = some x) (h0 : 0 ≤ x) (h1 : x < 256) (W : World) : (Instr.index 9 (.string (strOfNums l)) (.int .i64 (i : Int))).run Try.prog W = .ok (.int .u8 x) W := by
  have hi := (List.getElem?_eq_some_iff.1 h).1
  unfold Instr.index
  simp only [asIntOf, Sem.run_bind, Sem.run_pure, Result.andThen_ok, run_underlying Try.underlying9]
  rw [if_pos (by omega), Int.toNat_natCast, sget h]
  simp only [Sem.run_pure]
  congr 2
  rw [UInt8.toNat_ofNat']
  omega
theorem drop_atK {α : Type} {l : List α} {i : Nat} {x : α} (h : l[i]? = some x) : l.drop i = x :: l.drop (i + 1) := by
  obtain ⟨h1, rfl⟩ := List.getElem?_eq_some_iff.1 h
  exact List.drop_eq_getElem_cons h1
theorem info_intK : (Try.prog.info? 3).map (fun i => (i.zero, i.size, i.bytes)) = some (some (.int .i64 0), 1, 8) := by kernel_rfl
set_option maxRecDepth 100000
set_option maxHeartbeats 8000000
theorem trail_any (s : List Int) (len : Nat) (hlen : s.length = len) (hmax : len ≤ 100000) (hb : ∀ x ∈ s, 0 ≤ x ∧ x < 256) (out : List Int) (h : trR (s ++ [62]) 0 false false = some out) (w : World) :
    Calls Try.prog 49 #[.string (strOfNums s)] w fun e w' => ∃ A c, e = .returned (.slice A out.length c) ∧ Own w (fun _ => False) w' [row 3 1 (.slice A out.length c) out.length (nums .i64 out)] := by
  obtain ⟨i0, hi0, hi1, hi2, hi3⟩ := info_parts info_intK
  have hsz : (strOfNums s).size = len := by simp [strOfNums, ByteArray.size, hlen]
  have htl : Hidd ((s ++ [62]).length = len + 1) := ⟨by simp [hlen]⟩
  replace hb := Hidd.mk hb
  replace hlen := Hidd.mk hlen
  replace h := Hidd.mk h
  go_enter Try.func49, Try.ntmps49
  go_wp2
  go_loopg [3, 4, 5, 6, 7] (len + 1) (fun g v3 v4 v5 v6 v7 wr => ∃ (A : Option Addr) (c m : Nat) (n : Int) (d p : Bool) (i : Nat) (dn rest : List Int), i + g = len + 1 ∧ v3 = .slice A m c ∧ v4 = .int .i64 n ∧ v5 = .bool d ∧ v6 = .bool p ∧ v7 = .int .i64 i ∧ 0 ≤ n ∧ n ≤ 1000000 ∧ m ≤ i ∧ Hidd (trR ((s ++ [62]).drop i) n d p = some rest) ∧ Hidd (dn ++ rest = out) ∧ Hidd (dn.length = m) ∧ Hidd (Own w (fun _ => False) wr [row 3 1 (.slice A m c) m (nums .i64 dn)]))
  case atStart => exact ⟨none, 0, 0, 0, false, false, 0, [], out, by omega, rfl, rfl, rfl, rfl, rfl, by omega, by omega, by omega, h, ⟨rfl⟩, ⟨rfl⟩, ⟨row_nil (Own.nil w _) _ _⟩⟩
  case round =>
    obtain ⟨A, c, m, n, d, p, i, dn, rest, hg, rfl, rfl, rfl, rfl, rfl, hn0, hn1, hmi, hr, hdr, hm, ho⟩ := hrel
    cases gk with
    | zero =>
      obtain rfl : i = len + 1 := by omega
      have d1 : decide (len + 1 ≤ len) = false := by simp
      have d1' : decide ((len : Int) + 1 ≤ (len : Int)) = false := by rw [decide_eq_false_iff_not]; omega
      go_wp2
      (try rw [Exit.noGoto_ret])
      go_ret
      have hr0 := hr.out
      rw [List.drop_of_length_le (by rw [htl.out]; exact Nat.le_refl _), trR] at hr0
      injection hr0 with hr0
      subst hr0
      obtain rfl : dn = out := by have := hdr.out; rwa [List.append_nil] at this
      obtain rfl := hm.out
      exact ⟨A, c, rfl, ho.out⟩
    | succ g =>
      have hi : i < len + 1 := by omega
      have hgp : i + 1 + g = len + 1 := by omega
      have d1 : decide (i ≤ len) = true := by rw [decide_eq_true_eq]; omega
      have d1' : decide ((i : Int) ≤ (len : Int)) = true := by rw [decide_eq_true_eq]; omega
      obtain ⟨x, hx⟩ : ∃ x, (s ++ [62])[i]? = some x := ⟨_, List.getElem?_eq_getElem (by rw [htl.out]; exact hi)⟩
      have hr0 := hr.out
      rw [drop_atK hx, trR] at hr0
      have hci : (i < len ∧ s[i]? = some x ∧ 0 ≤ x ∧ x < 256) ∨ (i = len ∧ x = 62) := by
        by_cases hl : i < len
        · rw [List.getElem?_append_left (by rw [hlen.out]; exact hl)] at hx
          exact .inl ⟨hl, hx, hb.out x (List.mem_of_getElem? hx)⟩
        · obtain rfl : i = len := by omega
          rw [List.getElem?_append_right (by rw [hlen.out]; exact Nat.le_refl _), hlen.out, Nat.sub_self] at hx
          injection hx with hx
          exact .inr ⟨rfl, hx.symm⟩
      have hxb : 0 ≤ x ∧ x < 256 := by rcases hci with h | h <;> omega
      have hway : (x = 62 ∧ d = true ∧ ∃ r, trR ((s ++ [62]).drop (i + 1)) 0 false false = some r ∧ n :: r = rest) ∨ (x = 62 ∧ d = false ∧ trR ((s ++ [62]).drop (i + 1)) 0 false false = some rest)
          ∨ (x = 64 ∧ trR ((s ++ [62]).drop (i + 1)) n d true = some rest) ∨ (x ≠ 62 ∧ x ≠ 64 ∧ p = false ∧ 48 ≤ x ∧ x ≤ 57 ∧ 10 * n + (x - 48) ≤ 1000000 ∧ trR ((s ++ [62]).drop (i + 1)) (10 * n + (x - 48)) true p = some rest)
          ∨ (x ≠ 62 ∧ x ≠ 64 ∧ p = true ∧ trR ((s ++ [62]).drop (i + 1)) n d p = some rest) ∨ (x ≠ 62 ∧ x ≠ 64 ∧ p = false ∧ x < 48 ∧ trR ((s ++ [62]).drop (i + 1)) n d p = some rest) ∨ (x ≠ 62 ∧ x ≠ 64 ∧ p = false ∧ 48 ≤ x ∧ 57 < x ∧ trR ((s ++ [62]).drop (i + 1)) n d p = some rest) := by
        by_cases h62 : x = 62
        · rw [if_pos h62] at hr0
          cases d with
          | true =>
            rw [Option.map_eq_some_iff] at hr0
            obtain ⟨r, h1, h2⟩ := hr0
            exact .inl ⟨h62, rfl, r, h1, h2⟩
          | false =>
            rw [Option.map_eq_some_iff] at hr0
            obtain ⟨r, h1, h2⟩ := hr0
            have h2 : r = rest := h2
            exact .inr (.inl ⟨h62, rfl, by rw [← h2]; exact h1⟩)
        · rw [if_neg h62] at hr0
          by_cases h64 : x = 64
          · rw [if_pos h64] at hr0
            exact .inr (.inr (.inl ⟨h64, hr0⟩))
          · rw [if_neg h64] at hr0
            by_cases hp : p = false
            · by_cases h48 : 48 ≤ x
              · by_cases h57 : x ≤ 57
                · rw [if_pos ⟨hp, h48, h57⟩] at hr0
                  by_cases hs : 10 * n + (x - 48) ≤ 1000000
                  · rw [if_pos hs] at hr0
                    exact .inr (.inr (.inr (.inl ⟨h62, h64, hp, h48, h57, hs, hr0⟩)))
                  · rw [if_neg hs] at hr0
                    cases hr0
                · rw [if_neg (by intro h; exact h57 h.2.2)] at hr0
                  exact .inr (.inr (.inr (.inr (.inr (.inr ⟨h62, h64, hp, h48, by omega, hr0⟩)))))
              · rw [if_neg (by intro h; exact h48 h.2.1)] at hr0
                exact .inr (.inr (.inr (.inr (.inr (.inl ⟨h62, h64, hp, by omega, hr0⟩)))))
            · rw [if_neg (by intro h; exact hp h.1)] at hr0
              exact .inr (.inr (.inr (.inr (.inl ⟨h62, h64, by simpa using hp, hr0⟩))))
      clear hg hx hr hr0
      have hcf : (∃ _ : decide (i < len) = true, ∀ W, (Instr.index 9 (.string (strOfNums s)) (.int .i64 (i : Int))).run Try.prog W = .ok (.int .u8 x) W) ∨ (decide (i < len) = false ∧ x = 62) := by
        rcases hci with ⟨h1, h2, h3, h4⟩ | ⟨h1, h2⟩
        · exact .inl ⟨by rw [decide_eq_true_eq]; omega, fun W => idx_str h2 h3 h4 W⟩
        · exact .inr ⟨by rw [decide_eq_false_iff_not]; omega, h2⟩
      clear hci
      rcases hway with ⟨rfl, rfl, r, hr1, hr2⟩ | ⟨rfl, rfl, hr1⟩ | ⟨rfl, hr1⟩ | ⟨n62, n64, rfl, h48, h57, hn2, hr1⟩ | ⟨n62, n64, rfl, hr1⟩ | ⟨n62, n64, rfl, h48, hr1⟩ | ⟨n62, n64, rfl, h48, h57, hr1⟩
      all_goals replace hr1 := Hidd.mk hr1
      · replace hr2 := Hidd.mk hr2
        clear hi
        rcases hcf with ⟨f1, f2⟩ | ⟨f1, _⟩
        all_goals (try have f3 : decide ((i : Int) < (len : Int)) = true := (by rw [decide_eq_true_eq] at f1 ⊢; omega))
        all_goals (try have f3 : decide ((i : Int) < (len : Int)) = false := (by rw [decide_eq_false_iff_not] at f1 ⊢; omega))
        all_goals go_wp2_with (at_builtin; have hl := row_lit ho.out 3 1 1 #[.int .i64 n] (nums .i64 [n]) rfl rfl (by decide); refine wpList_row rfl _ _ 51 rfl 3 i0 (.int .i64 0) 1 8 Try.underlying51 hi0 hi1 hi2 hi3 rfl (by decide) hl 1 A m c _ rfl rfl _ 1 1 (nums .i64 [n]) rfl rfl (row_cells hl 0 rfl) (by intro _ h; cases h) (nums_one _ _) (by unfold maxLen; omega) (by omega) ?_; intro A4 c4 w4 ho4; rw [← nums_append] at ho4; replace ho4 := Hidd.mk ho4.tail; clear hl ho)
        all_goals go_roundg g
        all_goals first
          | omega
          | exact ⟨A4, c4, m + 1, 0, false, false, i + 1, dn ++ [n], r, hgp, rfl, rfl, rfl, rfl, by go_num, by omega, by omega, by omega, hr1, ⟨by rw [List.append_assoc, List.singleton_append, hr2.out]; exact hdr.out⟩, ⟨by rw [List.length_append, hm.out]; rfl⟩, ho4⟩
      · clear hi
        rcases hcf with ⟨f1, f2⟩ | ⟨f1, _⟩
        all_goals (try have f3 : decide ((i : Int) < (len : Int)) = true := (by rw [decide_eq_true_eq] at f1 ⊢; omega))
        all_goals (try have f3 : decide ((i : Int) < (len : Int)) = false := (by rw [decide_eq_false_iff_not] at f1 ⊢; omega))
        all_goals go_wp2
        all_goals go_roundg g
        all_goals first
          | omega
          | exact ⟨A, c, m, 0, false, false, i + 1, dn, rest, hgp, rfl, rfl, rfl, rfl, by go_num, by omega, by omega, by omega, hr1, hdr, hm, ho⟩
      · clear hi
        obtain ⟨f1, f2⟩ : ∃ _ : decide (i < len) = true, ∀ W, (Instr.index 9 (.string (strOfNums s)) (.int .i64 (i : Int))).run Try.prog W = .ok (.int .u8 64) W := by
          rcases hcf with h | ⟨_, h⟩
          · exact h
          · omega
        have f3 : decide ((i : Int) < (len : Int)) = true := by rw [decide_eq_true_eq] at f1 ⊢; omega
        clear hcf
        all_goals go_wp2
        all_goals go_roundg g
        all_goals first
          | omega
          | exact ⟨A, c, m, n, d, true, i + 1, dn, rest, hgp, rfl, rfl, rfl, rfl, by go_num, by omega, by omega, by omega, hr1, hdr, hm, ho⟩
      · clear hi
        have e1 : (x == 62) = false := by rw [beq_eq_false_iff_ne]; exact n62
        have e2 : (x == 64) = false := by rw [beq_eq_false_iff_ne]; exact n64
        obtain ⟨f1, f2⟩ : ∃ _ : decide (i < len) = true, ∀ W, (Instr.index 9 (.string (strOfNums s)) (.int .i64 (i : Int))).run Try.prog W = .ok (.int .u8 x) W := by
          rcases hcf with h | ⟨_, h⟩
          · exact h
          · omega
        have f3 : decide ((i : Int) < (len : Int)) = true := by rw [decide_eq_true_eq] at f1 ⊢; omega
        clear hcf
        have g1 : decide ((48 : Int) ≤ x) = true := decide_eq_true h48
        have g2 : decide (x ≤ (57 : Int)) = true := decide_eq_true h57
        have z0 : IntKind.u8.wrap (x - 48) = x - 48 := by rw [IntKind.wrap_u8]; omega
        have z1 : IntKind.i64.wrap (10 * n) = 10 * n := by rw [IntKind.wrap_i64]; omega
        have z2 : IntKind.i64.wrap (10 * n + (x - 48)) = 10 * n + (x - 48) := by rw [IntKind.wrap_i64]; omega
        have z3 : (x - 48) % 256 = x - 48 := by omega
        all_goals go_wp2
        all_goals go_roundg g
        all_goals first
          | omega
          | exact ⟨A, c, m, 10 * n + (x - 48), true, false, i + 1, dn, rest, hgp, rfl, rfl, rfl, rfl, by go_num, by omega, by omega, by omega, hr1, hdr, hm, ho⟩
      · clear hi
        have e1 : (x == 62) = false := by rw [beq_eq_false_iff_ne]; exact n62
        have e2 : (x == 64) = false := by rw [beq_eq_false_iff_ne]; exact n64
        obtain ⟨f1, f2⟩ : ∃ _ : decide (i < len) = true, ∀ W, (Instr.index 9 (.string (strOfNums s)) (.int .i64 (i : Int))).run Try.prog W = .ok (.int .u8 x) W := by
          rcases hcf with h | ⟨_, h⟩
          · exact h
          · omega
        have f3 : decide ((i : Int) < (len : Int)) = true := by rw [decide_eq_true_eq] at f1 ⊢; omega
        clear hcf
        all_goals go_wp2
        all_goals go_roundg g
        all_goals first
          | omega
          | exact ⟨A, c, m, n, d, true, i + 1, dn, rest, hgp, rfl, rfl, rfl, rfl, by go_num, by omega, by omega, by omega, hr1, hdr, hm, ho⟩
      · clear hi
        have e1 : (x == 62) = false := by rw [beq_eq_false_iff_ne]; exact n62
        have e2 : (x == 64) = false := by rw [beq_eq_false_iff_ne]; exact n64
        obtain ⟨f1, f2⟩ : ∃ _ : decide (i < len) = true, ∀ W, (Instr.index 9 (.string (strOfNums s)) (.int .i64 (i : Int))).run Try.prog W = .ok (.int .u8 x) W := by
          rcases hcf with h | ⟨_, h⟩
          · exact h
          · omega
        have f3 : decide ((i : Int) < (len : Int)) = true := by rw [decide_eq_true_eq] at f1 ⊢; omega
        clear hcf
        have g1 : decide ((48 : Int) ≤ x) = false := decide_eq_false (by omega)
        all_goals go_wp2
        all_goals go_roundg g
        all_goals first
          | omega
          | exact ⟨A, c, m, n, d, false, i + 1, dn, rest, hgp, rfl, rfl, rfl, rfl, by go_num, by omega, by omega, by omega, hr1, hdr, hm, ho⟩
      · clear hi
        have e1 : (x == 62) = false := by rw [beq_eq_false_iff_ne]; exact n62
        have e2 : (x == 64) = false := by rw [beq_eq_false_iff_ne]; exact n64
        obtain ⟨f1, f2⟩ : ∃ _ : decide (i < len) = true, ∀ W, (Instr.index 9 (.string (strOfNums s)) (.int .i64 (i : Int))).run Try.prog W = .ok (.int .u8 x) W := by
          rcases hcf with h | ⟨_, h⟩
          · exact h
          · omega
        have f3 : decide ((i : Int) < (len : Int)) = true := by rw [decide_eq_true_eq] at f1 ⊢; omega
        clear hcf
        have g1 : decide ((48 : Int) ≤ x) = true := decide_eq_true h48
        have g2 : decide (x ≤ (57 : Int)) = false := decide_eq_false (by omega)
        all_goals go_wp2
        all_goals go_roundg g
        all_goals first
          | omega
          | exact ⟨A, c, m, n, d, false, i + 1, dn, rest, hgp, rfl, rfl, rfl, rfl, by go_num, by omega, by omega, by omega, hr1, hdr, hm, ho⟩
end Go.Proofs.Ytpiahnecpbalhaa
