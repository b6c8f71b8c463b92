/-
  No cell of these rows narrows 'for every input' (looked for: loops, veiled, ifaces, maps, wideKeys, modest, calm, conditions, laid).
  DERIVED. THE GIVEN ROWS OF THIS SEAT. 10 by the template 'for every input the law returns true; each argument reads behind the call as it read before'; 0 by the template 'total and deterministic' (their statements: YtjejkmnlkmcckaaTotals.lean).
  GIVEN WITH THE SEED: the statements are not yours to turn. If you find one false, say at which input.
  Laid BY PROGRAM, IN A SANDBOX (cutbox-rows.mjs): the forced cells as the released guide's own fill.sh prints them over the translation 3e9e2818e4e2ccc3… (all of the seat's roots in one cut). By AI agents, Wed Nov 11 2026. No macro, syntax, notation, axiom, sorry.
-/
import Derived.Test.YtjejkmnlkmcckaaChecked
import GoSem.Claim
import GoSem.ClaimJoined
import GoSem.ClaimMapViews
import Derived.JoinedTies
import Derived.KernelRfl
namespace Go.Proofs.Ytjejkmnlkmcckaa
/- THE CELL 'sum', in the pinned program and in every row, IS THE sha256 OF THE DUMP (.gsa) THAT YtjejkmnlkmcckaaProg.lean LOADS. Nothing in Lean hashes anything: it is a label: what it is worth is what the hold of that sum in a sandbox is worth. -/
noncomputable def Try.pinned : Pinned := { name := "ytjejkmnlkmcckaa", sum := "3e9e2818e4e2ccc30e4a530d0ab5598374a7c0d4a96c2d2357caa3bfce5d67e0", checked := Try.checked }
namespace Rows
def none {H : Type} : Left H := { results := [], args := [] }

/-- 'escapementlaw08.QueuePlays': WHATEVER THE INPUT: true; the input reads as it did. -/
def queuePlaysSpec : ChangeSpec := { name := "queuePlays", fn := fun _ => fun
  | [d] => { results := [.lit (.bool true)], args := [d] }
  | _ => none }
def queuePlaysRow : OpenClaim := { program := "ytjejkmnlkmcckaa", sum := "3e9e2818e4e2ccc30e4a530d0ab5598374a7c0d4a96c2d2357caa3bfce5d67e0", func := "escapement/escapementlaw08.QueuePlays", spec := "queuePlays", recurses := true, apart := false }
def QueuePlaysSaid : Prop := queuePlaysRow.holds Try.pinned (OpenSpec.ofChange queuePlaysSpec)

/-- ITS FALSE NEIGHBOUR: 'it returns false'. Refute it at one input. -/
def queuePlaysWrong : ChangeSpec := { name := "queuePlays", fn := fun _ => fun
  | [d] => { results := [.lit (.bool false)], args := [d] }
  | _ => none }
def QueuePlaysWrongFalsely : Prop := queuePlaysRow.holds Try.pinned (OpenSpec.ofChange queuePlaysWrong)

/-- 'escapementlaw08.QueueFull': WHATEVER THE INPUT: true; the input reads as it did. -/
def queueFullSpec : ChangeSpec := { name := "queueFull", fn := fun _ => fun
  | [d1, d2] => { results := [.lit (.bool true)], args := [d1, d2] }
  | _ => none }
def queueFullRow : OpenClaim := { program := "ytjejkmnlkmcckaa", sum := "3e9e2818e4e2ccc30e4a530d0ab5598374a7c0d4a96c2d2357caa3bfce5d67e0", func := "escapement/escapementlaw08.QueueFull", spec := "queueFull", recurses := true, apart := false }
def QueueFullSaid : Prop := queueFullRow.holds Try.pinned (OpenSpec.ofChange queueFullSpec)

/-- ITS FALSE NEIGHBOUR: 'it returns false'. Refute it at one input. -/
def queueFullWrong : ChangeSpec := { name := "queueFull", fn := fun _ => fun
  | [d1, d2] => { results := [.lit (.bool false)], args := [d1, d2] }
  | _ => none }
def QueueFullWrongFalsely : Prop := queueFullRow.holds Try.pinned (OpenSpec.ofChange queueFullWrong)

/-- 'escapementlaw08.QueueNil': WHATEVER THE INPUT: true; the input reads as it did. -/
def queueNilSpec : ChangeSpec := { name := "queueNil", fn := fun _ => fun
  | [d] => { results := [.lit (.bool true)], args := [d] }
  | _ => none }
def queueNilRow : OpenClaim := { program := "ytjejkmnlkmcckaa", sum := "3e9e2818e4e2ccc30e4a530d0ab5598374a7c0d4a96c2d2357caa3bfce5d67e0", func := "escapement/escapementlaw08.QueueNil", spec := "queueNil", recurses := true, apart := false }
def QueueNilSaid : Prop := queueNilRow.holds Try.pinned (OpenSpec.ofChange queueNilSpec)

/-- ITS FALSE NEIGHBOUR: 'it returns false'. Refute it at one input. -/
def queueNilWrong : ChangeSpec := { name := "queueNil", fn := fun _ => fun
  | [d] => { results := [.lit (.bool false)], args := [d] }
  | _ => none }
def QueueNilWrongFalsely : Prop := queueNilRow.holds Try.pinned (OpenSpec.ofChange queueNilWrong)

/-- 'escapementlaw08.QueueSorts': WHATEVER THE INPUT: true; the input reads as it did. -/
def queueSortsSpec : ChangeSpec := { name := "queueSorts", fn := fun _ => fun
  | [d] => { results := [.lit (.bool true)], args := [d] }
  | _ => none }
def queueSortsRow : OpenClaim := { program := "ytjejkmnlkmcckaa", sum := "3e9e2818e4e2ccc30e4a530d0ab5598374a7c0d4a96c2d2357caa3bfce5d67e0", func := "escapement/escapementlaw08.QueueSorts", spec := "queueSorts", apart := false }
def QueueSortsSaid : Prop := queueSortsRow.holds Try.pinned (OpenSpec.ofChange queueSortsSpec)

/-- ITS FALSE NEIGHBOUR: 'it returns false'. Refute it at one input. -/
def queueSortsWrong : ChangeSpec := { name := "queueSorts", fn := fun _ => fun
  | [d] => { results := [.lit (.bool false)], args := [d] }
  | _ => none }
def QueueSortsWrongFalsely : Prop := queueSortsRow.holds Try.pinned (OpenSpec.ofChange queueSortsWrong)

/-- 'escapementlaw12.MemberSame': WHATEVER THE INPUT: true; the input reads as it did. -/
def memberSameSpec : ChangeSpec := { name := "memberSame", fn := fun _ => fun
  | [d1, d2] => { results := [.lit (.bool true)], args := [d1, d2] }
  | _ => none }
def memberSameRow : OpenClaim := { program := "ytjejkmnlkmcckaa", sum := "3e9e2818e4e2ccc30e4a530d0ab5598374a7c0d4a96c2d2357caa3bfce5d67e0", func := "escapement/escapementlaw12.MemberSame", spec := "memberSame", apart := false }
def MemberSameSaid : Prop := memberSameRow.holds Try.pinned (OpenSpec.ofChange memberSameSpec)

/-- ITS FALSE NEIGHBOUR: 'it returns false'. Refute it at one input. -/
def memberSameWrong : ChangeSpec := { name := "memberSame", fn := fun _ => fun
  | [d1, d2] => { results := [.lit (.bool false)], args := [d1, d2] }
  | _ => none }
def MemberSameWrongFalsely : Prop := memberSameRow.holds Try.pinned (OpenSpec.ofChange memberSameWrong)

/-- 'escapementlaw12.MemberSets': WHATEVER THE INPUT: true; the input reads as it did. -/
def memberSetsSpec : ChangeSpec := { name := "memberSets", fn := fun _ => fun
  | [d1, d2, d3] => { results := [.lit (.bool true)], args := [d1, d2, d3] }
  | _ => none }
def memberSetsRow : OpenClaim := { program := "ytjejkmnlkmcckaa", sum := "3e9e2818e4e2ccc30e4a530d0ab5598374a7c0d4a96c2d2357caa3bfce5d67e0", func := "escapement/escapementlaw12.MemberSets", spec := "memberSets", apart := false }
def MemberSetsSaid : Prop := memberSetsRow.holds Try.pinned (OpenSpec.ofChange memberSetsSpec)

/-- ITS FALSE NEIGHBOUR: 'it returns false'. Refute it at one input. -/
def memberSetsWrong : ChangeSpec := { name := "memberSets", fn := fun _ => fun
  | [d1, d2, d3] => { results := [.lit (.bool false)], args := [d1, d2, d3] }
  | _ => none }
def MemberSetsWrongFalsely : Prop := memberSetsRow.holds Try.pinned (OpenSpec.ofChange memberSetsWrong)

/-- 'escapementlaw12.MemberParts': WHATEVER THE INPUT: true; the input reads as it did. -/
def memberPartsSpec : ChangeSpec := { name := "memberParts", fn := fun _ => fun
  | [d1, d2] => { results := [.lit (.bool true)], args := [d1, d2] }
  | _ => none }
def memberPartsRow : OpenClaim := { program := "ytjejkmnlkmcckaa", sum := "3e9e2818e4e2ccc30e4a530d0ab5598374a7c0d4a96c2d2357caa3bfce5d67e0", func := "escapement/escapementlaw12.MemberParts", spec := "memberParts", apart := false }
def MemberPartsSaid : Prop := memberPartsRow.holds Try.pinned (OpenSpec.ofChange memberPartsSpec)

/-- ITS FALSE NEIGHBOUR: 'it returns false'. Refute it at one input. -/
def memberPartsWrong : ChangeSpec := { name := "memberParts", fn := fun _ => fun
  | [d1, d2] => { results := [.lit (.bool false)], args := [d1, d2] }
  | _ => none }
def MemberPartsWrongFalsely : Prop := memberPartsRow.holds Try.pinned (OpenSpec.ofChange memberPartsWrong)

/-- 'escapementlaw12.MemberHears': WHATEVER THE INPUT: true; the input reads as it did. -/
def memberHearsSpec : ChangeSpec := { name := "memberHears", fn := fun _ => fun
  | [d1, d2, d3] => { results := [.lit (.bool true)], args := [d1, d2, d3] }
  | _ => none }
def memberHearsRow : OpenClaim := { program := "ytjejkmnlkmcckaa", sum := "3e9e2818e4e2ccc30e4a530d0ab5598374a7c0d4a96c2d2357caa3bfce5d67e0", func := "escapement/escapementlaw12.MemberHears", spec := "memberHears", apart := false }
def MemberHearsSaid : Prop := memberHearsRow.holds Try.pinned (OpenSpec.ofChange memberHearsSpec)

/-- ITS FALSE NEIGHBOUR: 'it returns false'. Refute it at one input. -/
def memberHearsWrong : ChangeSpec := { name := "memberHears", fn := fun _ => fun
  | [d1, d2, d3] => { results := [.lit (.bool false)], args := [d1, d2, d3] }
  | _ => none }
def MemberHearsWrongFalsely : Prop := memberHearsRow.holds Try.pinned (OpenSpec.ofChange memberHearsWrong)

/-- 'escapementlaw12.MemberNil': WHATEVER THE INPUT: true; the input reads as it did. -/
def memberNilSpec : ChangeSpec := { name := "memberNil", fn := fun _ => fun
  | [d1, d2] => { results := [.lit (.bool true)], args := [d1, d2] }
  | _ => none }
def memberNilRow : OpenClaim := { program := "ytjejkmnlkmcckaa", sum := "3e9e2818e4e2ccc30e4a530d0ab5598374a7c0d4a96c2d2357caa3bfce5d67e0", func := "escapement/escapementlaw12.MemberNil", spec := "memberNil", apart := false }
def MemberNilSaid : Prop := memberNilRow.holds Try.pinned (OpenSpec.ofChange memberNilSpec)

/-- ITS FALSE NEIGHBOUR: 'it returns false'. Refute it at one input. -/
def memberNilWrong : ChangeSpec := { name := "memberNil", fn := fun _ => fun
  | [d1, d2] => { results := [.lit (.bool false)], args := [d1, d2] }
  | _ => none }
def MemberNilWrongFalsely : Prop := memberNilRow.holds Try.pinned (OpenSpec.ofChange memberNilWrong)

/-- 'escapementlaw12.MemberOther': WHATEVER THE INPUT: true; the input reads as it did. -/
def memberOtherSpec : ChangeSpec := { name := "memberOther", fn := fun _ => fun
  | [d1, d2, d3] => { results := [.lit (.bool true)], args := [d1, d2, d3] }
  | _ => none }
def memberOtherRow : OpenClaim := { program := "ytjejkmnlkmcckaa", sum := "3e9e2818e4e2ccc30e4a530d0ab5598374a7c0d4a96c2d2357caa3bfce5d67e0", func := "escapement/escapementlaw12.MemberOther", spec := "memberOther", apart := false }
def MemberOtherSaid : Prop := memberOtherRow.holds Try.pinned (OpenSpec.ofChange memberOtherSpec)

/-- ITS FALSE NEIGHBOUR: 'it returns false'. Refute it at one input. -/
def memberOtherWrong : ChangeSpec := { name := "memberOther", fn := fun _ => fun
  | [d1, d2, d3] => { results := [.lit (.bool false)], args := [d1, d2, d3] }
  | _ => none }
def MemberOtherWrongFalsely : Prop := memberOtherRow.holds Try.pinned (OpenSpec.ofChange memberOtherWrong)

/- THE SECOND FORM. 'bulk': how many values and letters a reading holds, each counted each time it is reached (what is shared counts as often as it is met; a slice's spare places count too). A statement '..UptoSaid' is the law's where the arguments, and the package variables that the reading takes, are together of bulk at most 1048576: NARROWER than '..Said'. Prove '..Said' where nothing that the law and all that it calls make is longer than what came in: it says more and counts as full. Else prove '..UptoSaid'. A law counts once. -/
mutual
def uptoBulk {H : Type} : DataW H → Nat
  | .lit (.string bytes) => bytes.length + 1
  | .lit _ => 1
  | .nil => 1
  | .ptr d => uptoBulk d + 1
  | .slice elems spare => uptoBulkAll elems + uptoBulkAll spare + 1
  | .agg parts => uptoBulkAll parts + 1
  | .iface _ d => uptoBulk d + 1
  | .map entries => uptoBulkEntries entries + 1
  | .held _ => 1
def uptoBulkAll {H : Type} : List (DataW H) → Nat
  | [] => 0
  | d :: r => uptoBulk d + uptoBulkAll r
def uptoBulkEntries {H : Type} : List (Lit × DataW H) → Nat
  | [] => 0
  | x :: r => uptoBulkEntry x + uptoBulkEntries r
def uptoBulkEntry {H : Type} : Lit × DataW H → Nat
  | (.string bytes, d) => bytes.length + uptoBulk d + 1
  | (_, d) => uptoBulk d + 1
 end
def uptoSmall : (H : Type) → List (DataW H) → Bool := fun _ ds => decide (uptoBulkAll ds ≤ 1048576)
def OpenSpec.upto (s : _root_.Go.ChangeSpec) : _root_.Go.OpenSpec := { _root_.Go.OpenSpec.ofChange s with cond := some uptoSmall }

/-- 'escapementlaw08.QueuePlays', WHERE WHAT IT READS IS OF BULK AT MOST 1048576: true; the input reads as it did. -/
def queuePlaysUptoRow : OpenClaim := { program := "ytjejkmnlkmcckaa", sum := "3e9e2818e4e2ccc30e4a530d0ab5598374a7c0d4a96c2d2357caa3bfce5d67e0", func := "escapement/escapementlaw08.QueuePlays", spec := "queuePlays", recurses := true, apart := false, narrowed := true }
def QueuePlaysUptoSaid : Prop := queuePlaysUptoRow.holds Try.pinned (OpenSpec.upto queuePlaysSpec)

/-- 'escapementlaw08.QueueFull', WHERE WHAT IT READS IS OF BULK AT MOST 1048576: true; the input reads as it did. -/
def queueFullUptoRow : OpenClaim := { program := "ytjejkmnlkmcckaa", sum := "3e9e2818e4e2ccc30e4a530d0ab5598374a7c0d4a96c2d2357caa3bfce5d67e0", func := "escapement/escapementlaw08.QueueFull", spec := "queueFull", recurses := true, apart := false, narrowed := true }
def QueueFullUptoSaid : Prop := queueFullUptoRow.holds Try.pinned (OpenSpec.upto queueFullSpec)

/-- 'escapementlaw08.QueueNil', WHERE WHAT IT READS IS OF BULK AT MOST 1048576: true; the input reads as it did. -/
def queueNilUptoRow : OpenClaim := { program := "ytjejkmnlkmcckaa", sum := "3e9e2818e4e2ccc30e4a530d0ab5598374a7c0d4a96c2d2357caa3bfce5d67e0", func := "escapement/escapementlaw08.QueueNil", spec := "queueNil", recurses := true, apart := false, narrowed := true }
def QueueNilUptoSaid : Prop := queueNilUptoRow.holds Try.pinned (OpenSpec.upto queueNilSpec)

/-- 'escapementlaw08.QueueSorts', WHERE WHAT IT READS IS OF BULK AT MOST 1048576: true; the input reads as it did. -/
def queueSortsUptoRow : OpenClaim := { program := "ytjejkmnlkmcckaa", sum := "3e9e2818e4e2ccc30e4a530d0ab5598374a7c0d4a96c2d2357caa3bfce5d67e0", func := "escapement/escapementlaw08.QueueSorts", spec := "queueSorts", apart := false, narrowed := true }
def QueueSortsUptoSaid : Prop := queueSortsUptoRow.holds Try.pinned (OpenSpec.upto queueSortsSpec)

/-- 'escapementlaw12.MemberSame', WHERE WHAT IT READS IS OF BULK AT MOST 1048576: true; the input reads as it did. -/
def memberSameUptoRow : OpenClaim := { program := "ytjejkmnlkmcckaa", sum := "3e9e2818e4e2ccc30e4a530d0ab5598374a7c0d4a96c2d2357caa3bfce5d67e0", func := "escapement/escapementlaw12.MemberSame", spec := "memberSame", apart := false, narrowed := true }
def MemberSameUptoSaid : Prop := memberSameUptoRow.holds Try.pinned (OpenSpec.upto memberSameSpec)

/-- 'escapementlaw12.MemberSets', WHERE WHAT IT READS IS OF BULK AT MOST 1048576: true; the input reads as it did. -/
def memberSetsUptoRow : OpenClaim := { program := "ytjejkmnlkmcckaa", sum := "3e9e2818e4e2ccc30e4a530d0ab5598374a7c0d4a96c2d2357caa3bfce5d67e0", func := "escapement/escapementlaw12.MemberSets", spec := "memberSets", apart := false, narrowed := true }
def MemberSetsUptoSaid : Prop := memberSetsUptoRow.holds Try.pinned (OpenSpec.upto memberSetsSpec)

/-- 'escapementlaw12.MemberParts', WHERE WHAT IT READS IS OF BULK AT MOST 1048576: true; the input reads as it did. -/
def memberPartsUptoRow : OpenClaim := { program := "ytjejkmnlkmcckaa", sum := "3e9e2818e4e2ccc30e4a530d0ab5598374a7c0d4a96c2d2357caa3bfce5d67e0", func := "escapement/escapementlaw12.MemberParts", spec := "memberParts", apart := false, narrowed := true }
def MemberPartsUptoSaid : Prop := memberPartsUptoRow.holds Try.pinned (OpenSpec.upto memberPartsSpec)

/-- 'escapementlaw12.MemberHears', WHERE WHAT IT READS IS OF BULK AT MOST 1048576: true; the input reads as it did. -/
def memberHearsUptoRow : OpenClaim := { program := "ytjejkmnlkmcckaa", sum := "3e9e2818e4e2ccc30e4a530d0ab5598374a7c0d4a96c2d2357caa3bfce5d67e0", func := "escapement/escapementlaw12.MemberHears", spec := "memberHears", apart := false, narrowed := true }
def MemberHearsUptoSaid : Prop := memberHearsUptoRow.holds Try.pinned (OpenSpec.upto memberHearsSpec)

/-- 'escapementlaw12.MemberNil', WHERE WHAT IT READS IS OF BULK AT MOST 1048576: true; the input reads as it did. -/
def memberNilUptoRow : OpenClaim := { program := "ytjejkmnlkmcckaa", sum := "3e9e2818e4e2ccc30e4a530d0ab5598374a7c0d4a96c2d2357caa3bfce5d67e0", func := "escapement/escapementlaw12.MemberNil", spec := "memberNil", apart := false, narrowed := true }
def MemberNilUptoSaid : Prop := memberNilUptoRow.holds Try.pinned (OpenSpec.upto memberNilSpec)

/-- 'escapementlaw12.MemberOther', WHERE WHAT IT READS IS OF BULK AT MOST 1048576: true; the input reads as it did. -/
def memberOtherUptoRow : OpenClaim := { program := "ytjejkmnlkmcckaa", sum := "3e9e2818e4e2ccc30e4a530d0ab5598374a7c0d4a96c2d2357caa3bfce5d67e0", func := "escapement/escapementlaw12.MemberOther", spec := "memberOther", apart := false, narrowed := true }
def MemberOtherUptoSaid : Prop := memberOtherUptoRow.holds Try.pinned (OpenSpec.upto memberOtherSpec)

end Rows
end Go.Proofs.Ytjejkmnlkmcckaa
