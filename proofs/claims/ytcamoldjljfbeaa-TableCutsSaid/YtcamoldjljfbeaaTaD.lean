/- The reader: Read, Take, At, Err, End. -/
import Derived.Test.YtcamoldjljfbeaaTaC
namespace Go.Proofs.Ytcamoldjljfbeaa
open Go.RowKit

theorem read_own (D : Option Addr) (len dcap : Nat) (bs : List Int) (w : World) (hD : Cells w D (nums .u8 bs)) (hbl : bs.length = len) (hlen : len ≤ 1000000000) :
    Calls Try.prog 70 #[.slice D len dcap] w fun e w' => ∃ b A cap, e = .returned (.pointer (some ⟨b, 0, none⟩)) ∧ Own w (fun _ => False) w' [rdr b A len cap bs 0 none .nilIface] := by
  have hD1 := Hidd.mk hD
  have hbl1 := Hidd.mk hbl
  obtain ⟨i0, hi0⟩ := info_parts info_u8
  replace hi0 := Hidd.mk hi0
  clear hD hbl
  go_enter Try.func70, Try.ntmps70
  go_wp2_with (at_builtin; refine wpList_any rfl _ _ 50 rfl 5 i0 (.int .u8 0) 1 1 Try.underlying50 hi0.out.1 hi0.out.2.1 hi0.out.2.2.1 hi0.out.2.2.2 (by rfl) (by decide) (own_empty (Own.nil w (fun _ => False)) 5 1 _) 0 _ 0 0 [] rfl rfl D len dcap (nums .u8 bs) rfl (by rw [nums_length, hbl1.out, Nat.mul_one]) (hD1.out.below (below_alloc (Below.refl _ _) _)) (ne_nil hD1.out hbl1.out) (nums_one _ _) (by unfold maxLen; omega) (by omega) ?_; intro A' cap' w6 ho6; replace ho6 := Hidd.mk ho6)
  go_ret
  refine ⟨w6.heap.size, A', cap', rfl, ?_⟩
  have h6 := ho6.out
  simp only [List.set_cons_zero, List.nil_append, Nat.zero_add] at h6
  have h := h6.alloc (.cells #[.slice A' len cap', .int .i64 ((0 : Nat) : Int), .nilIface] 113)
  refine h.join (rdr w6.heap.size A' len cap' bs 0 none .nilIface) (fun h1 h2 h3 => ⟨h1, h2, rfl, fun k hk e => ?_, fun k hk => by cases hk⟩) (fun i hi => ?_)
  · exact h3 k e hk
  · rcases hi with hi | hi | hi
    · exact .inl hi
    · exact .inr hi
    · cases hi

theorem at_own {w w0 : World} {S : Nat → Prop} {L : List Res} {b : Nat} {A : Option Addr} {n cap p : Nat} {xs : List Int} {er : Option (Int × Int)} {ev : Value} (k : Nat) (hO : Own w0 S w L) (hk : L[k]? = some (rdr b A n cap xs p er ev)) :
    Calls Try.prog 73 #[.pointer (some ⟨b, 0, none⟩)] w fun e w' => e = .returned (.int .i64 p) ∧ w = w' := by
  have hR : RdIn w b A n cap xs p er ev := hO.get k hk
  obtain ⟨c0, c1, c2⟩ := hR.cells
  clear hR hO hk
  go_enter Try.func73, Try.ntmps73
  go_wp2
  go_ret
  exact ⟨rfl, rfl⟩
theorem err_own {w w0 : World} {S : Nat → Prop} {L : List Res} {b : Nat} {A : Option Addr} {n cap p : Nat} {xs : List Int} {er : Option (Int × Int)} {ev : Value} (k : Nat) (hO : Own w0 S w L) (hk : L[k]? = some (rdr b A n cap xs p er ev)) :
    Calls Try.prog 87 #[.pointer (some ⟨b, 0, none⟩)] w fun e w' => e = .returned ev ∧ w = w' := by
  have hR : RdIn w b A n cap xs p er ev := hO.get k hk
  obtain ⟨c0, c1, c2⟩ := hR.cells
  have he := hR.he
  rcases er with _ | ⟨q0, q1⟩
  · obtain rfl : ev = .nilIface := he
    clear hR hO hk
    go_enter Try.func87, Try.ntmps87
    go_wp2
    go_ret
    exact ⟨rfl, rfl⟩
  · obtain ⟨fb, rfl, _⟩ := he
    clear hR hO hk
    go_enter Try.func87, Try.ntmps87
    go_wp2
    go_ret
    exact ⟨rfl, rfl⟩
def endE (n p : Nat) (er : Option (Int × Int)) : Option (Int × Int) := if er.isSome = true then er else if p < n then some (5, (p : Int)) else none
theorem end_own {w w0 : World} {S : Nat → Prop} {L : List Res} {b : Nat} {A : Option Addr} {n cap p : Nat} {xs : List Int} {er : Option (Int × Int)} {ev : Value} (k : Nat) (hO : Own w0 S w L) (hk : L[k]? = some (rdr b A n cap xs p er ev)) (er' : Option (Int × Int)) (her : endE n p er = er') :
    Calls Try.prog 72 #[.pointer (some ⟨b, 0, none⟩)] w fun e w' => ∃ v, e = .returned v ∧ IsE w' er' v ∧ Own w0 S w' L := by
  have hR : RdIn w b A n cap xs p er ev := hO.get k hk
  obtain ⟨c0, c1, c2⟩ := hR.cells
  have he := hR.he
  have hO1 := Hidd.mk hO
  have hk1 := Hidd.mk hk
  rcases er with _ | ⟨q0, q1⟩
  · obtain rfl : ev = .nilIface := he
    clear hR hO hk
    by_cases hlt : p < n
    · have e1 : endE n p none = some (5, (p : Int)) := by unfold endE; rw [if_neg (by decide), if_pos hlt]
      rw [e1] at her
      subst her
      have hd : decide ((p : Int) < (n : Int)) = true := by rw [decide_eq_true_eq]; omega
      clear e1
      go_enter Try.func72, Try.ntmps72
      go_wp2_with (go_at_call 87; refine (err_own k hO1.out hk1.out).mono ?_; rintro e w7 ⟨rfl, rfl⟩)
      obtain ⟨wy, hwy⟩ : ∃ zz, zz = World.drew w := ⟨_, rfl⟩
      refine wp_region_still_lit (by kernel_rfl) (by kernel_rfl) (StW.out ?_)
      rw [show ({ w with drawn := w.drawn + 1 } : World) = wy from hwy.symm]
      replace hwy := Hidd.mk hwy
      have d0 : wy.cell? ⟨b, 0, none⟩ = some (.slice A n cap) := by rw [hwy.out]; exact c0
      have d1 : wy.cell? ⟨b, 1, none⟩ = some (.int .i64 p) := by rw [hwy.out]; exact c1
      have hby : Hidd (Own w0 S wy L) := ⟨by rw [hwy.out]; exact hO1.out.drew⟩
      clear c0 c1 c2
      repeat (refine StW.go (by rfl) (fun K hK => ?_); go_simp; refine hK.out _ ?_; clear hK K)
      refine StW.nil ?_
      go_wp2_with (go_at_call 52; refine (newFault_any 5 p _ (by decide) (by omega)).mono ?_; rintro e w7 ⟨v, rfl, hn7, _⟩; replace hn7 := Hidd.mk hn7)
      go_ret
      exact ⟨_, rfl, hn7.out.get 0 rfl, hby.out.ext (hn7.out.below fun _ => id)⟩
    · have e1 : endE n p none = none := by unfold endE; rw [if_neg (by decide), if_neg hlt]
      rw [e1] at her
      subst her
      have hd : decide ((p : Int) < (n : Int)) = false := by rw [decide_eq_false_iff_not]; omega
      clear e1
      go_enter Try.func72, Try.ntmps72
      go_wp2_with (go_at_call 87; refine (err_own k hO1.out hk1.out).mono ?_; rintro e w7 ⟨rfl, rfl⟩)
      obtain ⟨wy, hwy⟩ : ∃ zz, zz = World.drew w := ⟨_, rfl⟩
      refine wp_region_still_lit (by kernel_rfl) (by kernel_rfl) (StW.out ?_)
      rw [show ({ w with drawn := w.drawn + 1 } : World) = wy from hwy.symm]
      replace hwy := Hidd.mk hwy
      have d0 : wy.cell? ⟨b, 0, none⟩ = some (.slice A n cap) := by rw [hwy.out]; exact c0
      have d1 : wy.cell? ⟨b, 1, none⟩ = some (.int .i64 p) := by rw [hwy.out]; exact c1
      have hby : Hidd (Own w0 S wy L) := ⟨by rw [hwy.out]; exact hO1.out.drew⟩
      clear c0 c1 c2
      repeat (refine StW.go (by rfl) (fun K hK => ?_); go_simp; refine hK.out _ ?_; clear hK K)
      refine StW.nil ?_
      go_wp2
      go_ret
      exact ⟨_, rfl, rfl, hby.out⟩
  · have e1 : endE n p (some (q0, q1)) = some (q0, q1) := rfl
    rw [e1] at her
    subst her
    have he1 := Hidd.mk he
    obtain ⟨fb, rfl, _⟩ := he
    clear hR hO hk e1
    go_enter Try.func72, Try.ntmps72
    go_wp2_with (go_at_call 87; refine (err_own k hO1.out hk1.out).mono ?_; rintro e w7 ⟨rfl, rfl⟩)
    go_ret
    exact ⟨_, rfl, he1.out, hO1.out⟩

/-- A number out of bytes, the highest first. -/
def valN (l : List Int) : Nat := l.foldl (fun a x => a * 256 + x.toNat) 0
theorem valN_take {l : List Int} {i : Nat} {x : Int} (h : l[i]? = some x) : valN (l.take (i + 1)) = valN (l.take i) * 256 + x.toNat := by
  unfold valN
  rw [List.take_add_one, h, List.foldl_append]
  rfl
theorem valN_lt (l : List Int) (hl : ∀ x ∈ l, 0 ≤ x ∧ x < 256) : ∀ i, valN (l.take i) < 256 ^ i
  | 0 => by simp [valN]
  | i + 1 => by
    have ih := valN_lt l hl i
    rcases h : l[i]? with _ | x
    · rw [List.take_of_length_le (by have := List.getElem?_eq_none_iff.1 h; omega)]
      rw [List.take_of_length_le (by have := List.getElem?_eq_none_iff.1 h; omega)] at ih
      exact Nat.lt_of_lt_of_le ih (Nat.pow_le_pow_right (by decide) (by omega))
    · rw [valN_take h, Nat.pow_succ]
      have := hl x (List.mem_of_getElem? h)
      omega
theorem or_u32 (v x : Nat) (hv : v < 16777216) (hx : x < 256) : bits .or .u32 ((v : Int) * 256) (x : Int) = (v : Int) * 256 + (x : Int) := by
  have h := u32_or_nat (v * 256) x (by omega) (by omega)
  rw [Int.natCast_mul] at h
  rw [show (256 : Int) = ((256 : Nat) : Int) from rfl, h]
  have := Nat.shiftLeft_add_eq_or_of_lt (i := 8) hx v
  rw [Nat.shiftLeft_eq] at this
  rw [← Int.natCast_mul, ← Int.natCast_add]
  congr 1
  exact this.symm
def takeR (xs : List Int) (n p : Nat) (er : Option (Int × Int)) (size : Int) : Nat × Nat × Option (Int × Int) :=
  if size < 1 ∨ 4 < size then (0, p, er) else if moreB n p er size = true then (valN ((xs.drop p).take size.toNat), p + size.toNat, er) else (0, p, moreE n p er size)
end Go.Proofs.Ytcamoldjljfbeaa
