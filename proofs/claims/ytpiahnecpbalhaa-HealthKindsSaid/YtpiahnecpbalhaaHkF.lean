/- HealthKinds: the links as they come in. -/
import Derived.Test.YtpiahnecpbalhaaHkE
namespace Go.Proofs.Ytpiahnecpbalhaa
open Go.RowKit
theorem links_of {w : World} {b : Nat} {A : Option Addr} {len cap : Nat} {rows : List (List Value)} (h : Rows' w b [.int .i64, .int .i64] A len cap rows) : ∃ ls, LinksAt w A len ls := by
  have hr : ∀ r ∈ rows, ∃ q : Int × Int, r = [.int .i64 q.1, .int .i64 q.2] ∧ -9223372036854775808 ≤ q.2 ∧ q.2 ≤ 9223372036854775807 := fun r hr => by
    have hl := h.each r hr
    have hf := h.fits r hr
    obtain ⟨x0, r0, rfl, e0⟩ := arr_cons hl
    obtain ⟨x1, r1, rfl, e1⟩ := arr_cons e0
    obtain rfl := List.length_eq_zero_iff.1 e1
    obtain ⟨y0, rfl, h0⟩ := (hf 0 _ _ rfl rfl).int_inv
    obtain ⟨y1, rfl, h1⟩ := (hf 1 _ _ rfl rfl).int_inv
    exact ⟨(y0, y1), rfl, wf64 h1⟩
  obtain ⟨qs, hql, hq⟩ := list_of rows hr
  refine ⟨qs, by rw [hql]; exact h.n, fun i x hi => ?_⟩
  have hlt : i < rows.length := by rw [← hql]; exact (List.getElem?_eq_some_iff.1 hi).1
  obtain ⟨e1, hb⟩ := hq i _ x (List.getElem?_eq_getElem hlt) hi
  have hri : rows[i]? = some rows[i] := List.getElem?_eq_getElem hlt
  rw [e1] at hri
  obtain ⟨a, ha, h0⟩ := h.cell i 0 _ _ hri rfl
  obtain ⟨a1, e1, h1⟩ := h.cell i 1 _ _ hri rfl
  subst ha
  injection e1 with e1
  subst e1
  rw [← add_add, addr_lit _ _ (by decide)] at h1
  exact ⟨hb, a, rfl, h0, h1⟩
theorem healthKinds_walk (A0 : Option Addr) (len0 cap0 : Nat) (z0 : List (List Value)) (a1 : Int) (w : World) (hr : Rows' w 16 [.int .i64, .int .i64] A0 len0 cap0 z0) (h1 : (Lit.int .u8 a1).wf = true) :
    Calls Try.prog 13 #[.slice A0 len0 cap0, .int .u8 a1] w fun e w' => e = .returned (.bool true) ∧ Below w.heap.size w w' := by
  obtain ⟨ls, hR⟩ := links_of hr
  exact healthKinds_in A0 len0 cap0 ls a1 w hR h1
end Go.Proofs.Ytpiahnecpbalhaa
