/- The reader: Read, Take, At, Err, End. -/
import Derived.Test.YtjbhcmkloamcmaaBaC
namespace Go.Proofs.Ytjbhcmkloamcmaa
open Go.RowKit

theorem read_own (D : Option Addr) (len dcap : Nat) (bs : List Int) (w : World) (hD : Cells w D (nums .u8 bs)) (hbl : bs.length = len) (hlen : len ≤ 1000000000) :
    Calls Try.prog 30 #[.slice D len dcap] w fun e w' => ∃ b A cap, e = .returned (.pointer (some ⟨b, 0, none⟩)) ∧ Own w (fun _ => False) w' [rdr b A len cap bs 0 none .nilIface] := by
  have hD1 := Hidd.mk hD
  have hbl1 := Hidd.mk hbl
  obtain ⟨i0, hi0⟩ := info_parts info_u8
  replace hi0 := Hidd.mk hi0
  clear hD hbl
  go_enter Try.func30, Try.ntmps30
  go_wp2_with (at_builtin; refine wpList_any rfl _ _ 22 rfl 5 i0 (.int .u8 0) 1 1 Try.underlying22 hi0.out.1 hi0.out.2.1 hi0.out.2.2.1 hi0.out.2.2.2 (by rfl) (by decide) (own_empty (Own.nil w (fun _ => False)) 5 1 _) 0 _ 0 0 [] rfl rfl D len dcap (nums .u8 bs) rfl (by rw [nums_length, hbl1.out, Nat.mul_one]) (hD1.out.below (below_alloc (Below.refl _ _) _)) (ne_nil hD1.out hbl1.out) (nums_one _ _) (by unfold maxLen; omega) (by omega) ?_; intro A' cap' w6 ho6; replace ho6 := Hidd.mk ho6)
  go_ret
  refine ⟨w6.heap.size, A', cap', rfl, ?_⟩
  have h6 := ho6.out
  simp only [List.set_cons_zero, List.nil_append, Nat.zero_add] at h6
  have h := h6.alloc (.cells #[.slice A' len cap', .int .i64 ((0 : Nat) : Int), .nilIface] 96)
  refine h.join (rdr w6.heap.size A' len cap' bs 0 none .nilIface) (fun h1 h2 h3 => ⟨h1, h2, rfl, fun k hk e => ?_, fun k hk => by cases hk⟩) (fun i hi => ?_)
  · exact h3 k e hk
  · rcases hi with hi | hi | hi
    · exact .inl hi
    · exact .inr hi
    · cases hi

def endE (n p : Nat) (er : Option (Int × Int)) : Option (Int × Int) := if er.isSome = true then er else if p < n then some (5, (p : Int)) else none
/-- A number out of bytes, the highest first. -/
def valN (l : List Int) : Nat := l.foldl (fun a x => a * 256 + x.toNat) 0
theorem valN_take {l : List Int} {i : Nat} {x : Int} (h : l[i]? = some x) : valN (l.take (i + 1)) = valN (l.take i) * 256 + x.toNat := by
  unfold valN
  rw [List.take_add_one, h, List.foldl_append]
  rfl
theorem valN_lt (l : List Int) (hl : ∀ x ∈ l, 0 ≤ x ∧ x < 256) : ∀ i, valN (l.take i) < 256 ^ i
  | 0 => by simp [valN]
  | i + 1 => by
    have ih := valN_lt l hl i
    rcases h : l[i]? with _ | x
    · rw [List.take_of_length_le (by have := List.getElem?_eq_none_iff.1 h; omega)]
      rw [List.take_of_length_le (by have := List.getElem?_eq_none_iff.1 h; omega)] at ih
      exact Nat.lt_of_lt_of_le ih (Nat.pow_le_pow_right (by decide) (by omega))
    · rw [valN_take h, Nat.pow_succ]
      have := hl x (List.mem_of_getElem? h)
      omega
theorem or_u32 (v x : Nat) (hv : v < 16777216) (hx : x < 256) : bits .or .u32 ((v : Int) * 256) (x : Int) = (v : Int) * 256 + (x : Int) := by
  have h := u32_or_nat (v * 256) x (by omega) (by omega)
  rw [Int.natCast_mul] at h
  rw [show (256 : Int) = ((256 : Nat) : Int) from rfl, h]
  have := Nat.shiftLeft_add_eq_or_of_lt (i := 8) hx v
  rw [Nat.shiftLeft_eq] at this
  rw [← Int.natCast_mul, ← Int.natCast_add]
  congr 1
  exact this.symm
def takeR (xs : List Int) (n p : Nat) (er : Option (Int × Int)) (size : Int) : Nat × Nat × Option (Int × Int) :=
  if size < 1 ∨ 4 < size then (0, p, er) else if moreB n p er size = true then (valN ((xs.drop p).take size.toNat), p + size.toNat, er) else (0, p, moreE n p er size)
end Go.Proofs.Ytjbhcmkloamcmaa
