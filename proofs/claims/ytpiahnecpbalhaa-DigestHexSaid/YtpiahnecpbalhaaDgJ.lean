/- DigestHex walked. -/
import Derived.Test.YtpiahnecpbalhaaDgG
import Derived.Test.YtpiahnecpbalhaaShp
import Derived.WideShapes
namespace Go.Proofs.Ytpiahnecpbalhaa
open Go.RowKit

theorem okWide_arr {P : Program} {w : World} {r : Reach} {base : Nat} {t : TypeId} {v : Value} {n : Nat} {e : TypeId} (ht : P.underlying t = some (.array n e)) (h : Value.okWide P w r base t v) : ∃ cs, v = .agg cs ∧ cs.size = P.cellsOf t := by
  simp only [Value.okWide, ht] at h
  obtain ⟨cs, h1, h2, _⟩ := h
  exact ⟨cs, h1, h2⟩
theorem arr_nums {w : World} {k : IntKind} (c : Array Value) (n : Nat) (hz : c.size = n) (h : ∀ (j : Nat) u, j < n → c[j]? = some u → Fits w (.int k) u) : ∃ zs : List Int, c = (nums k zs).toArray ∧ zs.length = n ∧ ∀ x ∈ zs, (Lit.int k x).wf = true := by
  have key : ∀ (l : List Value), (∀ u ∈ l, Fits w (.int k) u) → ∃ zs : List Int, l = nums k zs ∧ ∀ x ∈ zs, (Lit.int k x).wf = true := by
    intro l
    induction l with
    | nil => exact fun _ => ⟨[], rfl, by simp⟩
    | cons u l ih =>
      intro hl
      obtain ⟨zs, e, hw⟩ := ih fun u hu => hl u (List.mem_cons_of_mem _ hu)
      obtain ⟨z, rfl, hz⟩ := (hl u List.mem_cons_self).int_inv
      refine ⟨z :: zs, by rw [e]; rfl, fun x hx => ?_⟩
      rcases List.mem_cons.1 hx with rfl | hx
      · exact hz
      · exact hw x hx
  obtain ⟨zs, e, hw⟩ := key c.toList fun u hu => by
    obtain ⟨j, hj, rfl⟩ := List.getElem_of_mem hu
    exact h j _ (by simpa [hz] using hj) (by simp at hj ⊢)
  refine ⟨zs, by rw [← e], ?_, hw⟩
  have := congrArg List.length e
  rw [nums_length] at this
  rw [← this, ← hz]
  simp
theorem hexB_get : ∀ {d : List Int} {i : Nat} {x : Int}, d[i / 2]? = some x → (hexB d)[i]? = some (hexD (if i % 2 = 0 then x.toNat / 16 else x.toNat % 16))
  | [], i, x, h => by simp at h
  | y :: d, i, x, h => by
    by_cases hi : i < 2
    · have h0 : i / 2 = 0 := by omega
      rw [h0] at h
      obtain rfl : y = x := by simpa using h
      obtain rfl | rfl : i = 0 ∨ i = 1 := by omega
      all_goals rfl
    · obtain ⟨k, rfl⟩ : ∃ k, i = k + 2 := ⟨i - 2, by omega⟩
      rw [show (k + 2) / 2 = k / 2 + 1 by omega, List.getElem?_cons_succ] at h
      have := hexB_get (d := d) (i := k) (x := x) h
      rw [show (k + 2) % 2 = k % 2 by omega, ← this]
      rfl
theorem info_ab3 : (Try.prog.info? 68).map (·.size) = some 32 := by kernel_rfl
theorem hexD_cases (n : Nat) (h : n < 16) : (hexD n = 48 + n ∧ n < 10) ∨ (hexD n = 87 + n ∧ 10 ≤ n) := by
  unfold hexD
  split
  · exact .inl ⟨rfl, by assumption⟩
  · exact .inr ⟨rfl, by omega⟩
theorem strOfNums_get {l : List Int} {i : Nat} {x : Int} (h : l[i]? = some x) : (strOfNums l)[i]? = some (UInt8.ofNat x.toNat) := by
  have hi := (List.getElem?_eq_some_iff.1 h).1
  have hs : i < (strOfNums l).size := by rw [strOfNums_size]; exact hi
  rw [getElem?_pos (strOfNums l) i hs, ByteArray.getElem_eq_getElem_data]
  congr 1
  have e : l[i] = x := by rw [List.getElem?_eq_getElem hi] at h; injection h
  simp [strOfNums, e]
theorem str_get {l : List Int} {i : Nat} {x : Int} (h : l[i]? = some x) (h0 : 0 ≤ x) (h1 : x < 256) (W : World) : (Instr.index 9 (.string (strOfNums l)) (.int .i64 (i : Int))).run Try.prog W = .ok (.int .u8 x) W := by
  have hi := (List.getElem?_eq_some_iff.1 h).1
  unfold Instr.index
  simp only [asIntOf, Sem.run_bind, Sem.run_pure, Result.andThen_ok, run_underlying Try.underlying9]
  rw [if_pos (by omega), Int.toNat_natCast, strOfNums_get h]
  simp only [Sem.run_pure]
  congr 2
  rw [UInt8.toNat_ofNat']
  omega
set_option maxRecDepth 100000
set_option maxHeartbeats 8000000
theorem digestHex_walk (a0 : List Int) (w : World) (hl : a0.length = 32) (hw : ∀ x ∈ a0, (Lit.int .u8 x).wf = true) :
    Calls Try.prog 11 #[.agg (nums .u8 a0).toArray] w fun e w' => e = .returned (.bool true) ∧ Below w.heap.size w w' := by
  have hb : ∀ x ∈ a0, 0 ≤ x ∧ x < 256 := fun x hx => by have := bounds_u8 (hw x hx); omega
  clear hw
  replace hb := Hidd.mk hb
  have hcells : (nums .u8 a0).toArray.size = 32 := by simp [nums_length, hl]
  have hl2 := Hidd.mk hl
  have hsz : (strOfNums (hexB a0)).size = 64 := by rw [strOfNums_size, hexB_len, hl]
  replace hcells := Hidd.mk hcells
  clear hl
  have ho0 := Hidd.mk ((Own.nil w (fun _ => False)).alloc (.cells (nums .u8 a0).toArray 68 (0, 0)))
  go_enter Try.func11, Try.ntmps11
  go_upto_region 3 with (go_at_call 26; refine (awake18_any _).mono ?_; rintro e w1 ⟨rfl, hb1⟩; have ho := Hidd.mk (ho0.out.ext hb1); clear hb1)
  generalize w.heap.size = p1 at ho ⊢
  clear ho0
  refine wp_region_list (wpList_load_row rfl 68 (.tmp 1) rfl p1 rfl 68 (nums .u8 a0).toArray (0, 0) _ (ho.out.get 0 rfl) Try.underlying68 rfl (by rw [hcells.out]; exact info_ab3) ?_)
  go_wp2_with (go_at_call 29; refine (hex_any a0 hl2.out hb.out _).mono ?_; rintro e w2 ⟨rfl, hb2⟩; have ho3 := Hidd.mk (ho.out.ext hb2); clear hb2 ho)
  go_loopg [4] 64 (fun g v4 wx => ∃ (i : Nat), i + g = 64 ∧ v4 = .int .i64 i ∧ Hidd (Own w (fun _ => False) wx [blk p1 (.cells (nums .u8 a0).toArray 68 (0, 0))]))
  case atStart => exact ⟨0, by omega, rfl, ho3⟩
  case round =>
    clear ho3
    obtain ⟨i, hg, rfl, ho⟩ := hrel
    cases gk with
    | succ g =>
      have d1 : decide ((i : Int) < 64) = true := by rw [decide_eq_true_eq]; omega
      have bi0 : (0 : Int) ≤ (i : Int) := by omega
      have bi1 : (i : Int) < 64 := by omega
      have hgi : i + 1 + g = 64 := by omega
      obtain ⟨q, hq⟩ : ∃ q, q = i / 2 := ⟨_, rfl⟩
      obtain ⟨r, hr⟩ : ∃ r, r = i % 2 := ⟨_, rfl⟩
      have hx : a0[i / 2]? = some (a0.getD q 0) := by rw [← hq]; exact getD_some 0 (by rw [hl2.out]; omega)
      have hgx := hexB_get hx
      obtain ⟨hx0, hx1⟩ := hb.out _ (List.mem_of_getElem? hx)
      have c0 : wr.cell? ⟨p1, q, none⟩ = _ := (ho.out.cell 0 rfl q).trans (nums_getA (by rw [hq]; exact hx))
      generalize a0.getD q 0 = x at hx hgx hx0 hx1 c0
      obtain ⟨b, rfl⟩ : ∃ b : Nat, x = b := ⟨x.toNat, by omega⟩
      rw [Int.toNat_natCast, ← hr] at hgx
      have m1 : (i : Int) / 2 = (q : Int) := by omega
      have m2 : (i : Int) % 2 = (r : Int) := by omega
      have b1 : (q : Int) < 32 := by omega
      have b2 : (r : Int) < 2 := by omega
      obtain ⟨s4, hs4⟩ : ∃ s, s = 4 * (1 - r) := ⟨_, rfl⟩
      have m3 : (4 : Int) * (1 - (r : Int)) = (s4 : Int) := by omega
      have b3 : (s4 : Int) ≤ 4 := by omega
      obtain ⟨v, hv⟩ : ∃ v, v = if r = 0 then b / 16 else b % 16 := ⟨_, rfl⟩
      rw [← hv] at hgx
      have hv16 : v < 16 := by rw [hv]; split <;> omega
      have m4 : bits .and .u8 ((b : Int) / 2 ^ s4) 15 = (v : Int) := by
        rw [show ((b : Int) / 2 ^ s4) = ((b / 2 ^ s4 : Nat) : Int) by norm_cast, u8_and15 _ (Nat.lt_of_le_of_lt (Nat.div_le_self _ _) (by omega)), hv, hs4]
        obtain h | h : r = 0 ∨ r = 1 := by omega
        · subst h; simp; omega
        · subst h; simp
      rcases hexD_cases v hv16 with ⟨e, hlt⟩ | ⟨e, hge⟩
      · rw [e] at hgx
        have hid := str_get hgx (by omega) (by omega)
        obtain ⟨y, ey⟩ : ∃ y : Int, y = 48 + (v : Int) := ⟨_, rfl⟩
        rw [← ey] at hid
        have t1 : decide (48 ≤ y) = true := by rw [decide_eq_true_eq]; omega
        have t2 : decide (y ≤ 57) = true := by rw [decide_eq_true_eq]; omega
        have t3 : y - 48 = (v : Int) := by omega
        have t4 : 0 ≤ y ∧ y ≤ 57 := by omega
        obtain ⟨t5, t6⟩ := t4
        clear hgx e ey hv hs4 hq hr hx hx0 hx1 hg
        go_wp2
        go_roundg g
        case rel => exact ⟨i + 1, hgi, by go_num, ho⟩
        case measure => omega
      · rw [e] at hgx
        have hid := str_get hgx (by omega) (by omega)
        obtain ⟨y, ey⟩ : ∃ y : Int, y = 87 + (v : Int) := ⟨_, rfl⟩
        rw [← ey] at hid
        have t1 : decide (48 ≤ y) = true := by rw [decide_eq_true_eq]; omega
        have t2 : decide (y ≤ 57) = false := by rw [decide_eq_false_iff_not]; omega
        have t3 : decide (97 ≤ y) = true := by rw [decide_eq_true_eq]; omega
        have t4 : decide (y ≤ 102) = true := by rw [decide_eq_true_eq]; omega
        obtain ⟨u, hu⟩ : ∃ u : Nat, u = v - 10 := ⟨_, rfl⟩
        have t5 : y - 97 = (u : Int) := by omega
        have t6 : (u : Int) + 10 = (v : Int) := by omega
        have t7 : (u : Int) ≤ 5 := by omega
        have t8 : 0 ≤ y ∧ y ≤ 102 := by omega
        obtain ⟨t9, tA⟩ := t8
        clear hgx e ey hu hv hs4 hq hr hx hx0 hx1 hg
        go_wp2
        go_roundg g
        case rel => exact ⟨i + 1, hgi, by go_num, ho⟩
        case measure => omega
    | zero =>
      obtain rfl : i = 64 := by omega
      have d1 : decide ((64 : Int) < 64) = false := by decide
      go_wp2
      go_ret
      exact ⟨rfl, ho.out.below fun _ => id⟩
end Go.Proofs.Ytpiahnecpbalhaa
