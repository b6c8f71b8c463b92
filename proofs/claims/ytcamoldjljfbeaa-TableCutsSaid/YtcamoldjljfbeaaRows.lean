/-
  No cell of these rows narrows 'for every input' (looked for: loops, veiled, ifaces, maps, wideKeys, modest, calm, conditions, laid).
  DERIVED. THE GIVEN ROWS OF THIS SEAT. 15 by the template 'for every input the law returns true; each argument reads behind the call as it read before'; 0 by the template 'total and deterministic' (their statements: YtcamoldjljfbeaaTotals.lean).
  GIVEN WITH THE SEED: the statements are not yours to turn. If you find one false, say at which input.
  Laid BY PROGRAM, IN A SANDBOX (cutbox-rows.mjs): the forced cells as the released guide's own fill.sh prints them over the translation c5ae42431d1c8289… (all of the seat's roots in one cut). By AI agents, Wed Nov 11 2026. No macro, syntax, notation, axiom, sorry.
-/
import Derived.Test.YtcamoldjljfbeaaChecked
import GoSem.Claim
import GoSem.ClaimJoined
import GoSem.ClaimMapViews
import Derived.JoinedTies
import Derived.KernelRfl
namespace Go.Proofs.Ytcamoldjljfbeaa
/- THE CELL 'sum', in the pinned program and in every row, IS THE sha256 OF THE DUMP (.gsa) THAT YtcamoldjljfbeaaProg.lean LOADS. Nothing in Lean hashes anything: it is a label: what it is worth is what the hold of that sum in a sandbox is worth. -/
noncomputable def Try.pinned : Pinned := { name := "ytcamoldjljfbeaa", sum := "c5ae42431d1c82890e68856d46308353099ff4db137be92b1234687ff9f74e70", checked := Try.checked }
namespace Rows
def none {H : Type} : Left H := { results := [], args := [] }

/-- 'escapementlaw06.SoundChecks': WHATEVER THE INPUT: true; the input reads as it did. -/
def soundChecksSpec : ChangeSpec := { name := "soundChecks", fn := fun _ => fun
  | [d] => { results := [.lit (.bool true)], args := [d] }
  | _ => none }
def soundChecksRow : OpenClaim := { program := "ytcamoldjljfbeaa", sum := "c5ae42431d1c82890e68856d46308353099ff4db137be92b1234687ff9f74e70", func := "escapement/escapementlaw06.SoundChecks", spec := "soundChecks", recurses := true, apart := false }
def SoundChecksSaid : Prop := soundChecksRow.holds Try.pinned (OpenSpec.ofChange soundChecksSpec)

/-- ITS FALSE NEIGHBOUR: 'it returns false'. Refute it at one input. -/
def soundChecksWrong : ChangeSpec := { name := "soundChecks", fn := fun _ => fun
  | [d] => { results := [.lit (.bool false)], args := [d] }
  | _ => none }
def SoundChecksWrongFalsely : Prop := soundChecksRow.holds Try.pinned (OpenSpec.ofChange soundChecksWrong)

/-- 'escapementlaw06.SoundApart': WHATEVER THE INPUT: true; the input reads as it did. -/
def soundApartSpec : ChangeSpec := { name := "soundApart", fn := fun _ => fun
  | [d] => { results := [.lit (.bool true)], args := [d] }
  | _ => none }
def soundApartRow : OpenClaim := { program := "ytcamoldjljfbeaa", sum := "c5ae42431d1c82890e68856d46308353099ff4db137be92b1234687ff9f74e70", func := "escapement/escapementlaw06.SoundApart", spec := "soundApart", recurses := true, apart := false }
def SoundApartSaid : Prop := soundApartRow.holds Try.pinned (OpenSpec.ofChange soundApartSpec)

/-- ITS FALSE NEIGHBOUR: 'it returns false'. Refute it at one input. -/
def soundApartWrong : ChangeSpec := { name := "soundApart", fn := fun _ => fun
  | [d] => { results := [.lit (.bool false)], args := [d] }
  | _ => none }
def SoundApartWrongFalsely : Prop := soundApartRow.holds Try.pinned (OpenSpec.ofChange soundApartWrong)

/-- 'escapementlaw06.SoundWider': WHATEVER THE INPUT: true; the input reads as it did. -/
def soundWiderSpec : ChangeSpec := { name := "soundWider", fn := fun _ => fun
  | [d1, d2] => { results := [.lit (.bool true)], args := [d1, d2] }
  | _ => none }
def soundWiderRow : OpenClaim := { program := "ytcamoldjljfbeaa", sum := "c5ae42431d1c82890e68856d46308353099ff4db137be92b1234687ff9f74e70", func := "escapement/escapementlaw06.SoundWider", spec := "soundWider", recurses := true, apart := false }
def SoundWiderSaid : Prop := soundWiderRow.holds Try.pinned (OpenSpec.ofChange soundWiderSpec)

/-- ITS FALSE NEIGHBOUR: 'it returns false'. Refute it at one input. -/
def soundWiderWrong : ChangeSpec := { name := "soundWider", fn := fun _ => fun
  | [d1, d2] => { results := [.lit (.bool false)], args := [d1, d2] }
  | _ => none }
def SoundWiderWrongFalsely : Prop := soundWiderRow.holds Try.pinned (OpenSpec.ofChange soundWiderWrong)

/-- 'escapementlaw06.SoundMore': WHATEVER THE INPUT: true; the input reads as it did. -/
def soundMoreSpec : ChangeSpec := { name := "soundMore", fn := fun _ => fun
  | [d1, d2] => { results := [.lit (.bool true)], args := [d1, d2] }
  | _ => none }
def soundMoreRow : OpenClaim := { program := "ytcamoldjljfbeaa", sum := "c5ae42431d1c82890e68856d46308353099ff4db137be92b1234687ff9f74e70", func := "escapement/escapementlaw06.SoundMore", spec := "soundMore", recurses := true, apart := false }
def SoundMoreSaid : Prop := soundMoreRow.holds Try.pinned (OpenSpec.ofChange soundMoreSpec)

/-- ITS FALSE NEIGHBOUR: 'it returns false'. Refute it at one input. -/
def soundMoreWrong : ChangeSpec := { name := "soundMore", fn := fun _ => fun
  | [d1, d2] => { results := [.lit (.bool false)], args := [d1, d2] }
  | _ => none }
def SoundMoreWrongFalsely : Prop := soundMoreRow.holds Try.pinned (OpenSpec.ofChange soundMoreWrong)

/-- 'escapementlaw06.SoundReach': WHATEVER THE INPUT: true; the input reads as it did. -/
def soundReachSpec : ChangeSpec := { name := "soundReach", fn := fun _ => fun
  | [d1, d2] => { results := [.lit (.bool true)], args := [d1, d2] }
  | _ => none }
def soundReachRow : OpenClaim := { program := "ytcamoldjljfbeaa", sum := "c5ae42431d1c82890e68856d46308353099ff4db137be92b1234687ff9f74e70", func := "escapement/escapementlaw06.SoundReach", spec := "soundReach", recurses := true, apart := false }
def SoundReachSaid : Prop := soundReachRow.holds Try.pinned (OpenSpec.ofChange soundReachSpec)

/-- ITS FALSE NEIGHBOUR: 'it returns false'. Refute it at one input. -/
def soundReachWrong : ChangeSpec := { name := "soundReach", fn := fun _ => fun
  | [d1, d2] => { results := [.lit (.bool false)], args := [d1, d2] }
  | _ => none }
def SoundReachWrongFalsely : Prop := soundReachRow.holds Try.pinned (OpenSpec.ofChange soundReachWrong)

/-- 'escapementlaw05.TableWrites': WHATEVER THE INPUT: true; the input reads as it did. -/
def tableWritesSpec : ChangeSpec := { name := "tableWrites", fn := fun _ => fun
  | [d] => { results := [.lit (.bool true)], args := [d] }
  | _ => none }
def tableWritesRow : OpenClaim := { program := "ytcamoldjljfbeaa", sum := "c5ae42431d1c82890e68856d46308353099ff4db137be92b1234687ff9f74e70", func := "escapement/escapementlaw05.TableWrites", spec := "tableWrites", unfollowed := true, recurses := true, apart := false }
def TableWritesSaid : Prop := tableWritesRow.holds Try.pinned (OpenSpec.ofChange tableWritesSpec)

/-- ITS FALSE NEIGHBOUR: 'it returns false'. Refute it at one input. -/
def tableWritesWrong : ChangeSpec := { name := "tableWrites", fn := fun _ => fun
  | [d] => { results := [.lit (.bool false)], args := [d] }
  | _ => none }
def TableWritesWrongFalsely : Prop := tableWritesRow.holds Try.pinned (OpenSpec.ofChange tableWritesWrong)

/-- 'escapementlaw05.TableSizes': WHATEVER THE INPUT: true; the input reads as it did. -/
def tableSizesSpec : ChangeSpec := { name := "tableSizes", fn := fun _ => fun
  | [d] => { results := [.lit (.bool true)], args := [d] }
  | _ => none }
def tableSizesRow : OpenClaim := { program := "ytcamoldjljfbeaa", sum := "c5ae42431d1c82890e68856d46308353099ff4db137be92b1234687ff9f74e70", func := "escapement/escapementlaw05.TableSizes", spec := "tableSizes", unfollowed := true, recurses := true, apart := false }
def TableSizesSaid : Prop := tableSizesRow.holds Try.pinned (OpenSpec.ofChange tableSizesSpec)

/-- ITS FALSE NEIGHBOUR: 'it returns false'. Refute it at one input. -/
def tableSizesWrong : ChangeSpec := { name := "tableSizes", fn := fun _ => fun
  | [d] => { results := [.lit (.bool false)], args := [d] }
  | _ => none }
def TableSizesWrongFalsely : Prop := tableSizesRow.holds Try.pinned (OpenSpec.ofChange tableSizesWrong)

/-- 'escapementlaw17.FramesWalk': WHATEVER THE INPUT: true; the input reads as it did. -/
def framesWalkSpec : ChangeSpec := { name := "framesWalk", fn := fun _ => fun
  | [d1, d2] => { results := [.lit (.bool true)], args := [d1, d2] }
  | _ => none }
def framesWalkRow : OpenClaim := { program := "ytcamoldjljfbeaa", sum := "c5ae42431d1c82890e68856d46308353099ff4db137be92b1234687ff9f74e70", func := "escapement/escapementlaw17.FramesWalk", spec := "framesWalk", unfollowed := true, recurses := true, apart := false }
def FramesWalkSaid : Prop := framesWalkRow.holds Try.pinned (OpenSpec.ofChange framesWalkSpec)

/-- ITS FALSE NEIGHBOUR: 'it returns false'. Refute it at one input. -/
def framesWalkWrong : ChangeSpec := { name := "framesWalk", fn := fun _ => fun
  | [d1, d2] => { results := [.lit (.bool false)], args := [d1, d2] }
  | _ => none }
def FramesWalkWrongFalsely : Prop := framesWalkRow.holds Try.pinned (OpenSpec.ofChange framesWalkWrong)

/-- 'escapementlaw17.FramesFind': WHATEVER THE INPUT: true; the input reads as it did. -/
def framesFindSpec : ChangeSpec := { name := "framesFind", fn := fun _ => fun
  | [d1, d2, d3] => { results := [.lit (.bool true)], args := [d1, d2, d3] }
  | _ => none }
def framesFindRow : OpenClaim := { program := "ytcamoldjljfbeaa", sum := "c5ae42431d1c82890e68856d46308353099ff4db137be92b1234687ff9f74e70", func := "escapement/escapementlaw17.FramesFind", spec := "framesFind", unfollowed := true, recurses := true, apart := false }
def FramesFindSaid : Prop := framesFindRow.holds Try.pinned (OpenSpec.ofChange framesFindSpec)

/-- ITS FALSE NEIGHBOUR: 'it returns false'. Refute it at one input. -/
def framesFindWrong : ChangeSpec := { name := "framesFind", fn := fun _ => fun
  | [d1, d2, d3] => { results := [.lit (.bool false)], args := [d1, d2, d3] }
  | _ => none }
def FramesFindWrongFalsely : Prop := framesFindRow.holds Try.pinned (OpenSpec.ofChange framesFindWrong)

/-- 'escapementlaw17.FramesApart': WHATEVER THE INPUT: true; the input reads as it did. -/
def framesApartSpec : ChangeSpec := { name := "framesApart", fn := fun _ => fun
  | [d1, d2, d3] => { results := [.lit (.bool true)], args := [d1, d2, d3] }
  | _ => none }
def framesApartRow : OpenClaim := { program := "ytcamoldjljfbeaa", sum := "c5ae42431d1c82890e68856d46308353099ff4db137be92b1234687ff9f74e70", func := "escapement/escapementlaw17.FramesApart", spec := "framesApart", unfollowed := true, recurses := true, apart := false }
def FramesApartSaid : Prop := framesApartRow.holds Try.pinned (OpenSpec.ofChange framesApartSpec)

/-- ITS FALSE NEIGHBOUR: 'it returns false'. Refute it at one input. -/
def framesApartWrong : ChangeSpec := { name := "framesApart", fn := fun _ => fun
  | [d1, d2, d3] => { results := [.lit (.bool false)], args := [d1, d2, d3] }
  | _ => none }
def FramesApartWrongFalsely : Prop := framesApartRow.holds Try.pinned (OpenSpec.ofChange framesApartWrong)

/-- 'escapementlaw17.FramesIdle': WHATEVER THE INPUT: true; the input reads as it did. -/
def framesIdleSpec : ChangeSpec := { name := "framesIdle", fn := fun _ => fun
  | [d1, d2] => { results := [.lit (.bool true)], args := [d1, d2] }
  | _ => none }
def framesIdleRow : OpenClaim := { program := "ytcamoldjljfbeaa", sum := "c5ae42431d1c82890e68856d46308353099ff4db137be92b1234687ff9f74e70", func := "escapement/escapementlaw17.FramesIdle", spec := "framesIdle", unfollowed := true, recurses := true, apart := false }
def FramesIdleSaid : Prop := framesIdleRow.holds Try.pinned (OpenSpec.ofChange framesIdleSpec)

/-- ITS FALSE NEIGHBOUR: 'it returns false'. Refute it at one input. -/
def framesIdleWrong : ChangeSpec := { name := "framesIdle", fn := fun _ => fun
  | [d1, d2] => { results := [.lit (.bool false)], args := [d1, d2] }
  | _ => none }
def FramesIdleWrongFalsely : Prop := framesIdleRow.holds Try.pinned (OpenSpec.ofChange framesIdleWrong)

/-- 'escapementlaw05.TableReads': WHATEVER THE INPUT: true; the input reads as it did. -/
def tableReadsSpec : ChangeSpec := { name := "tableReads", fn := fun _ => fun
  | [d] => { results := [.lit (.bool true)], args := [d] }
  | _ => none }
def tableReadsRow : OpenClaim := { program := "ytcamoldjljfbeaa", sum := "c5ae42431d1c82890e68856d46308353099ff4db137be92b1234687ff9f74e70", func := "escapement/escapementlaw05.TableReads", spec := "tableReads", unfollowed := true, recurses := true, apart := false }
def TableReadsSaid : Prop := tableReadsRow.holds Try.pinned (OpenSpec.ofChange tableReadsSpec)

/-- ITS FALSE NEIGHBOUR: 'it returns false'. Refute it at one input. -/
def tableReadsWrong : ChangeSpec := { name := "tableReads", fn := fun _ => fun
  | [d] => { results := [.lit (.bool false)], args := [d] }
  | _ => none }
def TableReadsWrongFalsely : Prop := tableReadsRow.holds Try.pinned (OpenSpec.ofChange tableReadsWrong)

/-- 'escapementlaw05.TableBack': WHATEVER THE INPUT: true; the input reads as it did. -/
def tableBackSpec : ChangeSpec := { name := "tableBack", fn := fun _ => fun
  | [d] => { results := [.lit (.bool true)], args := [d] }
  | _ => none }
def tableBackRow : OpenClaim := { program := "ytcamoldjljfbeaa", sum := "c5ae42431d1c82890e68856d46308353099ff4db137be92b1234687ff9f74e70", func := "escapement/escapementlaw05.TableBack", spec := "tableBack", unfollowed := true, recurses := true, apart := false }
def TableBackSaid : Prop := tableBackRow.holds Try.pinned (OpenSpec.ofChange tableBackSpec)

/-- ITS FALSE NEIGHBOUR: 'it returns false'. Refute it at one input. -/
def tableBackWrong : ChangeSpec := { name := "tableBack", fn := fun _ => fun
  | [d] => { results := [.lit (.bool false)], args := [d] }
  | _ => none }
def TableBackWrongFalsely : Prop := tableBackRow.holds Try.pinned (OpenSpec.ofChange tableBackWrong)

/-- 'escapementlaw05.TableCuts': WHATEVER THE INPUT: true; the input reads as it did. -/
def tableCutsSpec : ChangeSpec := { name := "tableCuts", fn := fun _ => fun
  | [d1, d2, d3, d4] => { results := [.lit (.bool true)], args := [d1, d2, d3, d4] }
  | _ => none }
def tableCutsRow : OpenClaim := { program := "ytcamoldjljfbeaa", sum := "c5ae42431d1c82890e68856d46308353099ff4db137be92b1234687ff9f74e70", func := "escapement/escapementlaw05.TableCuts", spec := "tableCuts", unfollowed := true, recurses := true, apart := false }
def TableCutsSaid : Prop := tableCutsRow.holds Try.pinned (OpenSpec.ofChange tableCutsSpec)

/-- ITS FALSE NEIGHBOUR: 'it returns false'. Refute it at one input. -/
def tableCutsWrong : ChangeSpec := { name := "tableCuts", fn := fun _ => fun
  | [d1, d2, d3, d4] => { results := [.lit (.bool false)], args := [d1, d2, d3, d4] }
  | _ => none }
def TableCutsWrongFalsely : Prop := tableCutsRow.holds Try.pinned (OpenSpec.ofChange tableCutsWrong)

/-- 'escapementlaw06.SoundOrders': WHATEVER THE INPUT: true; the input reads as it did. -/
def soundOrdersSpec : ChangeSpec := { name := "soundOrders", fn := fun _ => fun
  | [d] => { results := [.lit (.bool true)], args := [d] }
  | _ => none }
def soundOrdersRow : OpenClaim := { program := "ytcamoldjljfbeaa", sum := "c5ae42431d1c82890e68856d46308353099ff4db137be92b1234687ff9f74e70", func := "escapement/escapementlaw06.SoundOrders", spec := "soundOrders", unfollowed := true, recurses := true, apart := false }
def SoundOrdersSaid : Prop := soundOrdersRow.holds Try.pinned (OpenSpec.ofChange soundOrdersSpec)

/-- ITS FALSE NEIGHBOUR: 'it returns false'. Refute it at one input. -/
def soundOrdersWrong : ChangeSpec := { name := "soundOrders", fn := fun _ => fun
  | [d] => { results := [.lit (.bool false)], args := [d] }
  | _ => none }
def SoundOrdersWrongFalsely : Prop := soundOrdersRow.holds Try.pinned (OpenSpec.ofChange soundOrdersWrong)

/- THE SECOND FORM. 'bulk': how many values and letters a reading holds, each counted each time it is reached (what is shared counts as often as it is met; a slice's spare places count too). A statement '..UptoSaid' is the law's where the arguments, and the package variables that the reading takes, are together of bulk at most 1048576: NARROWER than '..Said'. Prove '..Said' where nothing that the law and all that it calls make is longer than what came in: it says more and counts as full. Else prove '..UptoSaid'. A law counts once. -/
mutual
def uptoBulk {H : Type} : DataW H → Nat
  | .lit (.string bytes) => bytes.length + 1
  | .lit _ => 1
  | .nil => 1
  | .ptr d => uptoBulk d + 1
  | .slice elems spare => uptoBulkAll elems + uptoBulkAll spare + 1
  | .agg parts => uptoBulkAll parts + 1
  | .iface _ d => uptoBulk d + 1
  | .map entries => uptoBulkEntries entries + 1
  | .held _ => 1
def uptoBulkAll {H : Type} : List (DataW H) → Nat
  | [] => 0
  | d :: r => uptoBulk d + uptoBulkAll r
def uptoBulkEntries {H : Type} : List (Lit × DataW H) → Nat
  | [] => 0
  | x :: r => uptoBulkEntry x + uptoBulkEntries r
def uptoBulkEntry {H : Type} : Lit × DataW H → Nat
  | (.string bytes, d) => bytes.length + uptoBulk d + 1
  | (_, d) => uptoBulk d + 1
 end
def uptoSmall : (H : Type) → List (DataW H) → Bool := fun _ ds => decide (uptoBulkAll ds ≤ 1048576)
def OpenSpec.upto (s : _root_.Go.ChangeSpec) : _root_.Go.OpenSpec := { _root_.Go.OpenSpec.ofChange s with cond := some uptoSmall }

/-- 'escapementlaw06.SoundChecks', WHERE WHAT IT READS IS OF BULK AT MOST 1048576: true; the input reads as it did. -/
def soundChecksUptoRow : OpenClaim := { program := "ytcamoldjljfbeaa", sum := "c5ae42431d1c82890e68856d46308353099ff4db137be92b1234687ff9f74e70", func := "escapement/escapementlaw06.SoundChecks", spec := "soundChecks", recurses := true, apart := false, narrowed := true }
def SoundChecksUptoSaid : Prop := soundChecksUptoRow.holds Try.pinned (OpenSpec.upto soundChecksSpec)

/-- 'escapementlaw06.SoundApart', WHERE WHAT IT READS IS OF BULK AT MOST 1048576: true; the input reads as it did. -/
def soundApartUptoRow : OpenClaim := { program := "ytcamoldjljfbeaa", sum := "c5ae42431d1c82890e68856d46308353099ff4db137be92b1234687ff9f74e70", func := "escapement/escapementlaw06.SoundApart", spec := "soundApart", recurses := true, apart := false, narrowed := true }
def SoundApartUptoSaid : Prop := soundApartUptoRow.holds Try.pinned (OpenSpec.upto soundApartSpec)

/-- 'escapementlaw06.SoundWider', WHERE WHAT IT READS IS OF BULK AT MOST 1048576: true; the input reads as it did. -/
def soundWiderUptoRow : OpenClaim := { program := "ytcamoldjljfbeaa", sum := "c5ae42431d1c82890e68856d46308353099ff4db137be92b1234687ff9f74e70", func := "escapement/escapementlaw06.SoundWider", spec := "soundWider", recurses := true, apart := false, narrowed := true }
def SoundWiderUptoSaid : Prop := soundWiderUptoRow.holds Try.pinned (OpenSpec.upto soundWiderSpec)

/-- 'escapementlaw06.SoundMore', WHERE WHAT IT READS IS OF BULK AT MOST 1048576: true; the input reads as it did. -/
def soundMoreUptoRow : OpenClaim := { program := "ytcamoldjljfbeaa", sum := "c5ae42431d1c82890e68856d46308353099ff4db137be92b1234687ff9f74e70", func := "escapement/escapementlaw06.SoundMore", spec := "soundMore", recurses := true, apart := false, narrowed := true }
def SoundMoreUptoSaid : Prop := soundMoreUptoRow.holds Try.pinned (OpenSpec.upto soundMoreSpec)

/-- 'escapementlaw06.SoundReach', WHERE WHAT IT READS IS OF BULK AT MOST 1048576: true; the input reads as it did. -/
def soundReachUptoRow : OpenClaim := { program := "ytcamoldjljfbeaa", sum := "c5ae42431d1c82890e68856d46308353099ff4db137be92b1234687ff9f74e70", func := "escapement/escapementlaw06.SoundReach", spec := "soundReach", recurses := true, apart := false, narrowed := true }
def SoundReachUptoSaid : Prop := soundReachUptoRow.holds Try.pinned (OpenSpec.upto soundReachSpec)

/-- 'escapementlaw05.TableWrites', WHERE WHAT IT READS IS OF BULK AT MOST 1048576: true; the input reads as it did. -/
def tableWritesUptoRow : OpenClaim := { program := "ytcamoldjljfbeaa", sum := "c5ae42431d1c82890e68856d46308353099ff4db137be92b1234687ff9f74e70", func := "escapement/escapementlaw05.TableWrites", spec := "tableWrites", unfollowed := true, recurses := true, apart := false, narrowed := true }
def TableWritesUptoSaid : Prop := tableWritesUptoRow.holds Try.pinned (OpenSpec.upto tableWritesSpec)

/-- 'escapementlaw05.TableSizes', WHERE WHAT IT READS IS OF BULK AT MOST 1048576: true; the input reads as it did. -/
def tableSizesUptoRow : OpenClaim := { program := "ytcamoldjljfbeaa", sum := "c5ae42431d1c82890e68856d46308353099ff4db137be92b1234687ff9f74e70", func := "escapement/escapementlaw05.TableSizes", spec := "tableSizes", unfollowed := true, recurses := true, apart := false, narrowed := true }
def TableSizesUptoSaid : Prop := tableSizesUptoRow.holds Try.pinned (OpenSpec.upto tableSizesSpec)

/-- 'escapementlaw17.FramesWalk', WHERE WHAT IT READS IS OF BULK AT MOST 1048576: true; the input reads as it did. -/
def framesWalkUptoRow : OpenClaim := { program := "ytcamoldjljfbeaa", sum := "c5ae42431d1c82890e68856d46308353099ff4db137be92b1234687ff9f74e70", func := "escapement/escapementlaw17.FramesWalk", spec := "framesWalk", unfollowed := true, recurses := true, apart := false, narrowed := true }
def FramesWalkUptoSaid : Prop := framesWalkUptoRow.holds Try.pinned (OpenSpec.upto framesWalkSpec)

/-- 'escapementlaw17.FramesFind', WHERE WHAT IT READS IS OF BULK AT MOST 1048576: true; the input reads as it did. -/
def framesFindUptoRow : OpenClaim := { program := "ytcamoldjljfbeaa", sum := "c5ae42431d1c82890e68856d46308353099ff4db137be92b1234687ff9f74e70", func := "escapement/escapementlaw17.FramesFind", spec := "framesFind", unfollowed := true, recurses := true, apart := false, narrowed := true }
def FramesFindUptoSaid : Prop := framesFindUptoRow.holds Try.pinned (OpenSpec.upto framesFindSpec)

/-- 'escapementlaw17.FramesApart', WHERE WHAT IT READS IS OF BULK AT MOST 1048576: true; the input reads as it did. -/
def framesApartUptoRow : OpenClaim := { program := "ytcamoldjljfbeaa", sum := "c5ae42431d1c82890e68856d46308353099ff4db137be92b1234687ff9f74e70", func := "escapement/escapementlaw17.FramesApart", spec := "framesApart", unfollowed := true, recurses := true, apart := false, narrowed := true }
def FramesApartUptoSaid : Prop := framesApartUptoRow.holds Try.pinned (OpenSpec.upto framesApartSpec)

/-- 'escapementlaw17.FramesIdle', WHERE WHAT IT READS IS OF BULK AT MOST 1048576: true; the input reads as it did. -/
def framesIdleUptoRow : OpenClaim := { program := "ytcamoldjljfbeaa", sum := "c5ae42431d1c82890e68856d46308353099ff4db137be92b1234687ff9f74e70", func := "escapement/escapementlaw17.FramesIdle", spec := "framesIdle", unfollowed := true, recurses := true, apart := false, narrowed := true }
def FramesIdleUptoSaid : Prop := framesIdleUptoRow.holds Try.pinned (OpenSpec.upto framesIdleSpec)

/-- 'escapementlaw05.TableReads', WHERE WHAT IT READS IS OF BULK AT MOST 1048576: true; the input reads as it did. -/
def tableReadsUptoRow : OpenClaim := { program := "ytcamoldjljfbeaa", sum := "c5ae42431d1c82890e68856d46308353099ff4db137be92b1234687ff9f74e70", func := "escapement/escapementlaw05.TableReads", spec := "tableReads", unfollowed := true, recurses := true, apart := false, narrowed := true }
def TableReadsUptoSaid : Prop := tableReadsUptoRow.holds Try.pinned (OpenSpec.upto tableReadsSpec)

/-- 'escapementlaw05.TableBack', WHERE WHAT IT READS IS OF BULK AT MOST 1048576: true; the input reads as it did. -/
def tableBackUptoRow : OpenClaim := { program := "ytcamoldjljfbeaa", sum := "c5ae42431d1c82890e68856d46308353099ff4db137be92b1234687ff9f74e70", func := "escapement/escapementlaw05.TableBack", spec := "tableBack", unfollowed := true, recurses := true, apart := false, narrowed := true }
def TableBackUptoSaid : Prop := tableBackUptoRow.holds Try.pinned (OpenSpec.upto tableBackSpec)

/-- 'escapementlaw05.TableCuts', WHERE WHAT IT READS IS OF BULK AT MOST 1048576: true; the input reads as it did. -/
def tableCutsUptoRow : OpenClaim := { program := "ytcamoldjljfbeaa", sum := "c5ae42431d1c82890e68856d46308353099ff4db137be92b1234687ff9f74e70", func := "escapement/escapementlaw05.TableCuts", spec := "tableCuts", unfollowed := true, recurses := true, apart := false, narrowed := true }
def TableCutsUptoSaid : Prop := tableCutsUptoRow.holds Try.pinned (OpenSpec.upto tableCutsSpec)

/-- 'escapementlaw06.SoundOrders', WHERE WHAT IT READS IS OF BULK AT MOST 1048576: true; the input reads as it did. -/
def soundOrdersUptoRow : OpenClaim := { program := "ytcamoldjljfbeaa", sum := "c5ae42431d1c82890e68856d46308353099ff4db137be92b1234687ff9f74e70", func := "escapement/escapementlaw06.SoundOrders", spec := "soundOrders", unfollowed := true, recurses := true, apart := false, narrowed := true }
def SoundOrdersUptoSaid : Prop := soundOrdersUptoRow.holds Try.pinned (OpenSpec.upto soundOrdersSpec)

end Rows
end Go.Proofs.Ytcamoldjljfbeaa
