/- The monitor in memory; its Report and Seal. -/
import Derived.Test.YtpiahnecpbalhaaRec
import Derived.Test.YtpiahnecpbalhaaPack
import Derived.Test.YtpiahnecpbalhaaTree
namespace Go.Proofs.Ytpiahnecpbalhaa
open Go.RowKit

/-- A partition. -/
structure Pt where
  node : Int
  start : Int
  len : Int
  budget : Int
  words : Int
  r0 : Nat
  r1 : Nat
  r2 : Nat
  r3 : Nat
def Pt.cells (x : Pt) : List Value := [.int .i64 x.node, .int .i64 x.start, .int .i64 x.len, .int .i64 x.budget, .int .i64 x.words, .int .u8 x.r0, .int .u8 x.r1, .int .u8 x.r2, .int .u8 x.r3]
def Pt.rc (x : Pt) : List Nat := [x.r0, x.r1, x.r2, x.r3]
theorem pcells_len (x : Pt) : x.cells.length = 9 := rfl
theorem pt_rc {x : Pt} {k a : Nat} (h : x.rc[k]? = some a) : x.cells[5 + k]? = some (.int .u8 a) := by
  have hk : k < 4 := (List.getElem?_eq_some_iff.1 h).1
  obtain rfl | rfl | rfl | rfl : k = 0 ∨ k = 1 ∨ k = 2 ∨ k = 3 := by omega
  all_goals (simp [Pt.rc] at h; subst h; rfl)
theorem pt_one (x : Pt) : ∀ u ∈ x.cells, u.oneCell' = true := by
  intro u hu
  simp [Pt.cells] at hu
  rcases hu with rfl | rfl | rfl | rfl | rfl | rfl | rfl | rfl | rfl <;> rfl
theorem info_part : (Try.prog.info? 31).map (fun i => (i.zero, i.size, i.bytes)) = some (some (.agg #[.int .i64 0, .int .i64 0, .int .i64 0, .int .i64 0, .int .i64 0, .int .u8 0, .int .u8 0, .int .u8 0, .int .u8 0]), 9, 48) := by kernel_rfl
/-- Where a monitor's lists lie. -/
structure MA where
  PA : Option Addr
  pc : Nat
  LA : Option Addr
  lc : Nat
  GA : Option Addr
  gc : Nat
def monL (b : Nat) (node : Int) (n : Nat) (M : MA) (OA : Option Addr) (on oc : Nat) (ps : List Pt) (last again : List Int) (out : List Rec5) : List Res :=
  [blk b (.cells #[.int .i64 node, .slice M.PA n M.pc, .slice M.LA n M.lc, .slice M.GA n M.gc, .slice OA on oc] 90), row 31 9 (.slice M.PA n M.pc) n (ps.flatMap Pt.cells), row 36 1 (.slice M.LA n M.lc) n (nums .u32 last),
    row 3 1 (.slice M.GA n M.gc) n (nums .i64 again), row 54 5 (.slice OA on oc) on (out.flatMap Rec5.cells)]
/-- What a report does: the action, the last round and the row's length. -/
def repS (a : Nat) (l g : Int) (round : Nat) : Nat × Int × Int :=
  if a = 1 then (if 3 ≤ (if l ≠ 0 ∧ (round : Int) ≤ l then g + 1 else 1) then 2 else 1, (round : Int) + 1, if l ≠ 0 ∧ (round : Int) ≤ l then g + 1 else 1) else (a, l, g)
theorem nums_set (k : IntKind) (xs : List Int) (i : Nat) (x : Int) : (nums k xs).set i (.int k x) = nums k (xs.set i x) := by simp [nums, List.map_set]
theorem nums_get {k : IntKind} {xs : List Int} {i : Nat} {x : Int} (h : xs[i]? = some x) : (nums k xs)[i]? = some (.int k x) := by simp [nums, h]
theorem cells5 {w0 w : World} {S : Nat → Prop} {L : List Res} {p : Nat} {T : TypeId} {fr : Nat × Nat} {a0 a1 a2 a3 a4 : Value} (h : Own w0 S w L) (k : Nat) (hk : L[k]? = some (blk p (.cells #[a0, a1, a2, a3, a4] T fr))) :
    w.cell? ⟨p, 0, none⟩ = some a0 ∧ w.cell? ⟨p, 1, none⟩ = some a1 ∧ w.cell? ⟨p, 2, none⟩ = some a2 ∧ w.cell? ⟨p, 3, none⟩ = some a3 ∧ w.cell? ⟨p, 4, none⟩ = some a4 :=
  ⟨h.cell k hk 0, h.cell k hk 1, h.cell k hk 2, h.cell k hk 3, h.cell k hk 4⟩

set_option maxRecDepth 100000
set_option maxHeartbeats 4000000
theorem report_bad {w w0 : World} {S : Nat → Prop} {L : List Res} {b : Nat} {node : Int} {n : Nat} {M : MA} {OA : Option Addr} {on oc : Nat} {ps : List Pt} {last again : List Int} {out : List Rec5} (k : Nat) (hO : Own w0 S w L) (hk : L[k]? = some (Res.pack (monL b node n M OA on oc ps last again out)))
    (round kind : Nat) (part : Int) (hbad : part < 0 ∨ (n : Int) ≤ part ∨ 3 < kind ∨ 1048576 ≤ round) :
    Calls Try.prog 20 #[.pointer (some ⟨b, 0, none⟩), .int .u32 round, .int .i64 part, .int .u8 kind] w fun e w' => e = .returned (.tuple #[.int .u8 0, .iface 81 (.int .i64 2)]) ∧ w = w' := by
  have ho := hO.open_ k hk
  obtain ⟨x0, x1, x2, x3, x4⟩ := cells5 ho 0 rfl
  clear ho hO hk
  by_cases h1 : part < 0
  · have d1 : decide (part < 0) = true := by simpa using h1
    go_enter Try.func20, Try.ntmps20
    go_wp2
    go_ret2
    exact ⟨rfl, rfl⟩
  · obtain ⟨p, rfl⟩ : ∃ p : Nat, part = p := ⟨part.toNat, by omega⟩
    by_cases h2 : n ≤ p
    · have d1 : decide (n ≤ p) = true := by simpa using h2
      clear hbad
      go_enter Try.func20, Try.ntmps20
      go_wp2
      go_ret2
      exact ⟨rfl, rfl⟩
    · have d1 : decide (n ≤ p) = false := by simpa using h2
      by_cases h3 : 3 < kind
      · have d2 : decide (3 < (kind : Int)) = true := by rw [decide_eq_true_eq]; omega
        clear hbad
        go_enter Try.func20, Try.ntmps20
        go_wp2
        go_ret2
        exact ⟨rfl, rfl⟩
      · have d2 : decide (3 < (kind : Int)) = false := by rw [decide_eq_false_iff_not]; omega
        have d3 : decide (1048576 ≤ (round : Int)) = true := by rw [decide_eq_true_eq]; omega
        clear hbad
        go_enter Try.func20, Try.ntmps20
        go_wp2
        go_ret2
        exact ⟨rfl, rfl⟩
theorem seal_own {w w0 : World} {S : Nat → Prop} {L : List Res} {b : Nat} {node : Int} {n : Nat} {M : MA} {OA : Option Addr} {on oc : Nat} {ps : List Pt} {last again : List Int} {out : List Rec5} (k : Nat) (hO : Own w0 S w L) (hk : L[k]? = some (Res.pack (monL b node n M OA on oc ps last again out))) :
    Calls Try.prog 18 #[.pointer (some ⟨b, 0, none⟩)] w fun e w' => e = .returned (.slice OA on oc) ∧ Own w0 S w' (row 54 5 (.slice OA on oc) on (out.flatMap Rec5.cells) :: L.set k (Res.pack (monL b node n M none 0 0 ps last again []))) := by
  have ho := hO.open_ k hk
  obtain ⟨x0, x1, x2, x3, x4⟩ := cells5 ho 0 rfl
  have f4 := ho.frozen 0 rfl 4
  have h1 := ho.set 0 rfl 4 (.slice none 0 0)
  have hend : Hidd (Own w0 S (w.setCell ⟨b, 4, none⟩ (.slice none 0 0)) (row 54 5 (.slice OA on oc) on (out.flatMap Rec5.cells) :: L.set k (Res.pack (monL b node n M none 0 0 ps last again [])))) := ⟨by
    have h2 : Own w (Res.pack (monL b node n M OA on oc ps last again out)).foot (w.setCell ⟨b, 4, none⟩ (.slice none 0 0)) (monL b node n M none 0 0 ps last again [] ++ [row 54 5 (.slice OA on oc) on (out.flatMap Rec5.cells)]) :=
      (row_nil h1 54 5).reorder [1, 2, 3, 4, 0, 5] rfl (by decide)
    exact hO.call2 k hk h2.pack_in⟩
  clear ho h1 hO hk
  go_enter Try.func18, Try.ntmps18
  go_wp2
  go_ret
  exact ⟨rfl, hend.out⟩
end Go.Proofs.Ytpiahnecpbalhaa
