/-
  No cell of these rows narrows 'for every input' (looked for: loops, veiled, ifaces, maps, wideKeys, modest, calm, conditions, laid).
  DERIVED. THE GIVEN ROWS OF THIS SEAT. 11 by the template 'for every input the law returns true; each argument reads behind the call as it read before'; 0 by the template 'total and deterministic' (their statements: YtpiahnecpbalhaaTotals.lean).
  GIVEN WITH THE SEED: the statements are not yours to turn. If you find one false, say at which input.
  Laid BY PROGRAM, IN A SANDBOX (cutbox-rows.mjs): the forced cells as the released guide's own fill.sh prints them over the translation 0a0e919d7e54aacf… (all of the seat's roots in one cut). By AI agents, Wed Nov 11 2026. No macro, syntax, notation, axiom, sorry.
-/
import Derived.Test.YtpiahnecpbalhaaChecked
import GoSem.Claim
import GoSem.ClaimJoined
import GoSem.ClaimMapViews
import Derived.JoinedTies
import Derived.KernelRfl
namespace Go.Proofs.Ytpiahnecpbalhaa
/- THE CELL 'sum', in the pinned program and in every row, IS THE sha256 OF THE DUMP (.gsa) THAT YtpiahnecpbalhaaProg.lean LOADS. Nothing in Lean hashes anything: it is a label: what it is worth is what the hold of that sum in a sandbox is worth. -/
noncomputable def Try.pinned : Pinned := { name := "ytpiahnecpbalhaa", sum := "0a0e919d7e54aacfdf3bbaa489049b5d5d0083184b39561a6e0890052530940d", checked := Try.checked }
namespace Rows
def none {H : Type} : Left H := { results := [], args := [] }

/-- 'escapementlaw15.HealthReports': WHATEVER THE INPUT: true; the input reads as it did. -/
def healthReportsSpec : ChangeSpec := { name := "healthReports", fn := fun _ => fun
  | [d1, d2, d3] => { results := [.lit (.bool true)], args := [d1, d2, d3] }
  | _ => none }
def healthReportsRow : OpenClaim := { program := "ytpiahnecpbalhaa", sum := "0a0e919d7e54aacfdf3bbaa489049b5d5d0083184b39561a6e0890052530940d", func := "escapement/escapementlaw15.HealthReports", spec := "healthReports", inPlace := ["internal/reflectlite.TypeOf"], unfollowed := true, recurses := true, apart := false }
def HealthReportsSaid : Prop := healthReportsRow.holds Try.pinned (OpenSpec.ofChange healthReportsSpec)

/-- ITS FALSE NEIGHBOUR: 'it returns false'. Refute it at one input. -/
def healthReportsWrong : ChangeSpec := { name := "healthReports", fn := fun _ => fun
  | [d1, d2, d3] => { results := [.lit (.bool false)], args := [d1, d2, d3] }
  | _ => none }
def HealthReportsWrongFalsely : Prop := healthReportsRow.holds Try.pinned (OpenSpec.ofChange healthReportsWrong)

/-- 'escapementlaw15.HealthRow': WHATEVER THE INPUT: true; the input reads as it did. -/
def healthRowSpec : ChangeSpec := { name := "healthRow", fn := fun _ => fun
  | [d1, d2] => { results := [.lit (.bool true)], args := [d1, d2] }
  | _ => none }
def healthRowRow : OpenClaim := { program := "ytpiahnecpbalhaa", sum := "0a0e919d7e54aacfdf3bbaa489049b5d5d0083184b39561a6e0890052530940d", func := "escapement/escapementlaw15.HealthRow", spec := "healthRow", inPlace := ["internal/reflectlite.TypeOf"], unfollowed := true, recurses := true, apart := false }
def HealthRowSaid : Prop := healthRowRow.holds Try.pinned (OpenSpec.ofChange healthRowSpec)

/-- ITS FALSE NEIGHBOUR: 'it returns false'. Refute it at one input. -/
def healthRowWrong : ChangeSpec := { name := "healthRow", fn := fun _ => fun
  | [d1, d2] => { results := [.lit (.bool false)], args := [d1, d2] }
  | _ => none }
def HealthRowWrongFalsely : Prop := healthRowRow.holds Try.pinned (OpenSpec.ofChange healthRowWrong)

/-- 'escapementlaw15.HealthSeals': WHATEVER THE INPUT: true; the input reads as it did. -/
def healthSealsSpec : ChangeSpec := { name := "healthSeals", fn := fun _ => fun
  | [d] => { results := [.lit (.bool true)], args := [d] }
  | _ => none }
def healthSealsRow : OpenClaim := { program := "ytpiahnecpbalhaa", sum := "0a0e919d7e54aacfdf3bbaa489049b5d5d0083184b39561a6e0890052530940d", func := "escapement/escapementlaw15.HealthSeals", spec := "healthSeals", inPlace := ["internal/reflectlite.TypeOf"], unfollowed := true, recurses := true, apart := false }
def HealthSealsSaid : Prop := healthSealsRow.holds Try.pinned (OpenSpec.ofChange healthSealsSpec)

/-- ITS FALSE NEIGHBOUR: 'it returns false'. Refute it at one input. -/
def healthSealsWrong : ChangeSpec := { name := "healthSeals", fn := fun _ => fun
  | [d] => { results := [.lit (.bool false)], args := [d] }
  | _ => none }
def HealthSealsWrongFalsely : Prop := healthSealsRow.holds Try.pinned (OpenSpec.ofChange healthSealsWrong)

/-- 'escapementlaw15.HealthParts': WHATEVER THE INPUT: true; the input reads as it did. -/
def healthPartsSpec : ChangeSpec := { name := "healthParts", fn := fun _ => fun
  | [d1, d2] => { results := [.lit (.bool true)], args := [d1, d2] }
  | _ => none }
def healthPartsRow : OpenClaim := { program := "ytpiahnecpbalhaa", sum := "0a0e919d7e54aacfdf3bbaa489049b5d5d0083184b39561a6e0890052530940d", func := "escapement/escapementlaw15.HealthParts", spec := "healthParts", inPlace := ["internal/reflectlite.TypeOf"], unfollowed := true, recurses := true, apart := false }
def HealthPartsSaid : Prop := healthPartsRow.holds Try.pinned (OpenSpec.ofChange healthPartsSpec)

/-- ITS FALSE NEIGHBOUR: 'it returns false'. Refute it at one input. -/
def healthPartsWrong : ChangeSpec := { name := "healthParts", fn := fun _ => fun
  | [d1, d2] => { results := [.lit (.bool false)], args := [d1, d2] }
  | _ => none }
def HealthPartsWrongFalsely : Prop := healthPartsRow.holds Try.pinned (OpenSpec.ofChange healthPartsWrong)

/-- 'escapementlaw15.HealthOf': WHATEVER THE INPUT: true; the input reads as it did. -/
def healthOfSpec : ChangeSpec := { name := "healthOf", fn := fun _ => fun
  | [d1, d2] => { results := [.lit (.bool true)], args := [d1, d2] }
  | _ => none }
def healthOfRow : OpenClaim := { program := "ytpiahnecpbalhaa", sum := "0a0e919d7e54aacfdf3bbaa489049b5d5d0083184b39561a6e0890052530940d", func := "escapement/escapementlaw15.HealthOf", spec := "healthOf", inPlace := ["internal/reflectlite.TypeOf"], unfollowed := true, recurses := true, apart := false }
def HealthOfSaid : Prop := healthOfRow.holds Try.pinned (OpenSpec.ofChange healthOfSpec)

/-- ITS FALSE NEIGHBOUR: 'it returns false'. Refute it at one input. -/
def healthOfWrong : ChangeSpec := { name := "healthOf", fn := fun _ => fun
  | [d1, d2] => { results := [.lit (.bool false)], args := [d1, d2] }
  | _ => none }
def HealthOfWrongFalsely : Prop := healthOfRow.holds Try.pinned (OpenSpec.ofChange healthOfWrong)

/-- 'escapementlaw15.HealthLogs': WHATEVER THE INPUT: true; the input reads as it did. -/
def healthLogsSpec : ChangeSpec := { name := "healthLogs", fn := fun _ => fun
  | [d] => { results := [.lit (.bool true)], args := [d] }
  | _ => none }
def healthLogsRow : OpenClaim := { program := "ytpiahnecpbalhaa", sum := "0a0e919d7e54aacfdf3bbaa489049b5d5d0083184b39561a6e0890052530940d", func := "escapement/escapementlaw15.HealthLogs", spec := "healthLogs", inPlace := ["internal/reflectlite.TypeOf"], unfollowed := true, recurses := true, apart := false }
def HealthLogsSaid : Prop := healthLogsRow.holds Try.pinned (OpenSpec.ofChange healthLogsSpec)

/-- ITS FALSE NEIGHBOUR: 'it returns false'. Refute it at one input. -/
def healthLogsWrong : ChangeSpec := { name := "healthLogs", fn := fun _ => fun
  | [d] => { results := [.lit (.bool false)], args := [d] }
  | _ => none }
def HealthLogsWrongFalsely : Prop := healthLogsRow.holds Try.pinned (OpenSpec.ofChange healthLogsWrong)

/-- 'escapementlaw18.DigestSums': WHATEVER THE INPUT: true; the input reads as it did. -/
def digestSumsSpec : ChangeSpec := { name := "digestSums", fn := fun _ => fun
  | [d] => { results := [.lit (.bool true)], args := [d] }
  | _ => none }
def digestSumsRow : OpenClaim := { program := "ytpiahnecpbalhaa", sum := "0a0e919d7e54aacfdf3bbaa489049b5d5d0083184b39561a6e0890052530940d", func := "escapement/escapementlaw18.DigestSums", spec := "digestSums", inPlace := ["math/bits.Add64"], unfollowed := true, recurses := true, apart := false }
def DigestSumsSaid : Prop := digestSumsRow.holds Try.pinned (OpenSpec.ofChange digestSumsSpec)

/-- ITS FALSE NEIGHBOUR: 'it returns false'. Refute it at one input. -/
def digestSumsWrong : ChangeSpec := { name := "digestSums", fn := fun _ => fun
  | [d] => { results := [.lit (.bool false)], args := [d] }
  | _ => none }
def DigestSumsWrongFalsely : Prop := digestSumsRow.holds Try.pinned (OpenSpec.ofChange digestSumsWrong)

/-- 'escapementlaw18.DigestEnds': WHATEVER THE INPUT: true; the input reads as it did. -/
def digestEndsSpec : ChangeSpec := { name := "digestEnds", fn := fun _ => fun
  | [d1, d2] => { results := [.lit (.bool true)], args := [d1, d2] }
  | _ => none }
def digestEndsRow : OpenClaim := { program := "ytpiahnecpbalhaa", sum := "0a0e919d7e54aacfdf3bbaa489049b5d5d0083184b39561a6e0890052530940d", func := "escapement/escapementlaw18.DigestEnds", spec := "digestEnds", inPlace := ["math/bits.Add64"], unfollowed := true, recurses := true, apart := false }
def DigestEndsSaid : Prop := digestEndsRow.holds Try.pinned (OpenSpec.ofChange digestEndsSpec)

/-- ITS FALSE NEIGHBOUR: 'it returns false'. Refute it at one input. -/
def digestEndsWrong : ChangeSpec := { name := "digestEnds", fn := fun _ => fun
  | [d1, d2] => { results := [.lit (.bool false)], args := [d1, d2] }
  | _ => none }
def DigestEndsWrongFalsely : Prop := digestEndsRow.holds Try.pinned (OpenSpec.ofChange digestEndsWrong)

/-- 'escapementlaw18.DigestHex': WHATEVER THE INPUT: true; the input reads as it did. -/
def digestHexSpec : ChangeSpec := { name := "digestHex", fn := fun _ => fun
  | [d] => { results := [.lit (.bool true)], args := [d] }
  | _ => none }
def digestHexRow : OpenClaim := { program := "ytpiahnecpbalhaa", sum := "0a0e919d7e54aacfdf3bbaa489049b5d5d0083184b39561a6e0890052530940d", func := "escapement/escapementlaw18.DigestHex", spec := "digestHex", inPlace := ["math/bits.Add64"], unfollowed := true, recurses := true, apart := false }
def DigestHexSaid : Prop := digestHexRow.holds Try.pinned (OpenSpec.ofChange digestHexSpec)

/-- ITS FALSE NEIGHBOUR: 'it returns false'. Refute it at one input. -/
def digestHexWrong : ChangeSpec := { name := "digestHex", fn := fun _ => fun
  | [d] => { results := [.lit (.bool false)], args := [d] }
  | _ => none }
def DigestHexWrongFalsely : Prop := digestHexRow.holds Try.pinned (OpenSpec.ofChange digestHexWrong)

/-- 'escapementlaw18.DigestAgain': WHATEVER THE INPUT: true; the input reads as it did. -/
def digestAgainSpec : ChangeSpec := { name := "digestAgain", fn := fun _ => fun
  | [d1, d2] => { results := [.lit (.bool true)], args := [d1, d2] }
  | _ => none }
def digestAgainRow : OpenClaim := { program := "ytpiahnecpbalhaa", sum := "0a0e919d7e54aacfdf3bbaa489049b5d5d0083184b39561a6e0890052530940d", func := "escapement/escapementlaw18.DigestAgain", spec := "digestAgain", inPlace := ["math/bits.Add64"], unfollowed := true, recurses := true, apart := false }
def DigestAgainSaid : Prop := digestAgainRow.holds Try.pinned (OpenSpec.ofChange digestAgainSpec)

/-- ITS FALSE NEIGHBOUR: 'it returns false'. Refute it at one input. -/
def digestAgainWrong : ChangeSpec := { name := "digestAgain", fn := fun _ => fun
  | [d1, d2] => { results := [.lit (.bool false)], args := [d1, d2] }
  | _ => none }
def DigestAgainWrongFalsely : Prop := digestAgainRow.holds Try.pinned (OpenSpec.ofChange digestAgainWrong)

/-- 'escapementlaw15.HealthKinds': WHATEVER THE INPUT: true; the input reads as it did. -/
def healthKindsSpec : ChangeSpec := { name := "healthKinds", fn := fun _ => fun
  | [d1, d2] => { results := [.lit (.bool true)], args := [d1, d2] }
  | _ => none }
def healthKindsRow : OpenClaim := { program := "ytpiahnecpbalhaa", sum := "0a0e919d7e54aacfdf3bbaa489049b5d5d0083184b39561a6e0890052530940d", func := "escapement/escapementlaw15.HealthKinds", spec := "healthKinds", inPlace := ["internal/reflectlite.TypeOf"], unfollowed := true, recurses := true, apart := false }
def HealthKindsSaid : Prop := healthKindsRow.holds Try.pinned (OpenSpec.ofChange healthKindsSpec)

/-- ITS FALSE NEIGHBOUR: 'it returns false'. Refute it at one input. -/
def healthKindsWrong : ChangeSpec := { name := "healthKinds", fn := fun _ => fun
  | [d1, d2] => { results := [.lit (.bool false)], args := [d1, d2] }
  | _ => none }
def HealthKindsWrongFalsely : Prop := healthKindsRow.holds Try.pinned (OpenSpec.ofChange healthKindsWrong)

/- THE SECOND FORM. 'bulk': how many values and letters a reading holds, each counted each time it is reached (what is shared counts as often as it is met; a slice's spare places count too). A statement '..UptoSaid' is the law's where the arguments, and the package variables that the reading takes, are together of bulk at most 1048576: NARROWER than '..Said'. Prove '..Said' where nothing that the law and all that it calls make is longer than what came in: it says more and counts as full. Else prove '..UptoSaid'. A law counts once. -/
mutual
def uptoBulk {H : Type} : DataW H → Nat
  | .lit (.string bytes) => bytes.length + 1
  | .lit _ => 1
  | .nil => 1
  | .ptr d => uptoBulk d + 1
  | .slice elems spare => uptoBulkAll elems + uptoBulkAll spare + 1
  | .agg parts => uptoBulkAll parts + 1
  | .iface _ d => uptoBulk d + 1
  | .map entries => uptoBulkEntries entries + 1
  | .held _ => 1
def uptoBulkAll {H : Type} : List (DataW H) → Nat
  | [] => 0
  | d :: r => uptoBulk d + uptoBulkAll r
def uptoBulkEntries {H : Type} : List (Lit × DataW H) → Nat
  | [] => 0
  | x :: r => uptoBulkEntry x + uptoBulkEntries r
def uptoBulkEntry {H : Type} : Lit × DataW H → Nat
  | (.string bytes, d) => bytes.length + uptoBulk d + 1
  | (_, d) => uptoBulk d + 1
 end
def uptoSmall : (H : Type) → List (DataW H) → Bool := fun _ ds => decide (uptoBulkAll ds ≤ 1048576)
def OpenSpec.upto (s : _root_.Go.ChangeSpec) : _root_.Go.OpenSpec := { _root_.Go.OpenSpec.ofChange s with cond := some uptoSmall }

/-- 'escapementlaw15.HealthReports', WHERE WHAT IT READS IS OF BULK AT MOST 1048576: true; the input reads as it did. -/
def healthReportsUptoRow : OpenClaim := { program := "ytpiahnecpbalhaa", sum := "0a0e919d7e54aacfdf3bbaa489049b5d5d0083184b39561a6e0890052530940d", func := "escapement/escapementlaw15.HealthReports", spec := "healthReports", inPlace := ["internal/reflectlite.TypeOf"], unfollowed := true, recurses := true, apart := false, narrowed := true }
def HealthReportsUptoSaid : Prop := healthReportsUptoRow.holds Try.pinned (OpenSpec.upto healthReportsSpec)

/-- 'escapementlaw15.HealthRow', WHERE WHAT IT READS IS OF BULK AT MOST 1048576: true; the input reads as it did. -/
def healthRowUptoRow : OpenClaim := { program := "ytpiahnecpbalhaa", sum := "0a0e919d7e54aacfdf3bbaa489049b5d5d0083184b39561a6e0890052530940d", func := "escapement/escapementlaw15.HealthRow", spec := "healthRow", inPlace := ["internal/reflectlite.TypeOf"], unfollowed := true, recurses := true, apart := false, narrowed := true }
def HealthRowUptoSaid : Prop := healthRowUptoRow.holds Try.pinned (OpenSpec.upto healthRowSpec)

/-- 'escapementlaw15.HealthSeals', WHERE WHAT IT READS IS OF BULK AT MOST 1048576: true; the input reads as it did. -/
def healthSealsUptoRow : OpenClaim := { program := "ytpiahnecpbalhaa", sum := "0a0e919d7e54aacfdf3bbaa489049b5d5d0083184b39561a6e0890052530940d", func := "escapement/escapementlaw15.HealthSeals", spec := "healthSeals", inPlace := ["internal/reflectlite.TypeOf"], unfollowed := true, recurses := true, apart := false, narrowed := true }
def HealthSealsUptoSaid : Prop := healthSealsUptoRow.holds Try.pinned (OpenSpec.upto healthSealsSpec)

/-- 'escapementlaw15.HealthParts', WHERE WHAT IT READS IS OF BULK AT MOST 1048576: true; the input reads as it did. -/
def healthPartsUptoRow : OpenClaim := { program := "ytpiahnecpbalhaa", sum := "0a0e919d7e54aacfdf3bbaa489049b5d5d0083184b39561a6e0890052530940d", func := "escapement/escapementlaw15.HealthParts", spec := "healthParts", inPlace := ["internal/reflectlite.TypeOf"], unfollowed := true, recurses := true, apart := false, narrowed := true }
def HealthPartsUptoSaid : Prop := healthPartsUptoRow.holds Try.pinned (OpenSpec.upto healthPartsSpec)

/-- 'escapementlaw15.HealthOf', WHERE WHAT IT READS IS OF BULK AT MOST 1048576: true; the input reads as it did. -/
def healthOfUptoRow : OpenClaim := { program := "ytpiahnecpbalhaa", sum := "0a0e919d7e54aacfdf3bbaa489049b5d5d0083184b39561a6e0890052530940d", func := "escapement/escapementlaw15.HealthOf", spec := "healthOf", inPlace := ["internal/reflectlite.TypeOf"], unfollowed := true, recurses := true, apart := false, narrowed := true }
def HealthOfUptoSaid : Prop := healthOfUptoRow.holds Try.pinned (OpenSpec.upto healthOfSpec)

/-- 'escapementlaw15.HealthLogs', WHERE WHAT IT READS IS OF BULK AT MOST 1048576: true; the input reads as it did. -/
def healthLogsUptoRow : OpenClaim := { program := "ytpiahnecpbalhaa", sum := "0a0e919d7e54aacfdf3bbaa489049b5d5d0083184b39561a6e0890052530940d", func := "escapement/escapementlaw15.HealthLogs", spec := "healthLogs", inPlace := ["internal/reflectlite.TypeOf"], unfollowed := true, recurses := true, apart := false, narrowed := true }
def HealthLogsUptoSaid : Prop := healthLogsUptoRow.holds Try.pinned (OpenSpec.upto healthLogsSpec)

/-- 'escapementlaw18.DigestSums', WHERE WHAT IT READS IS OF BULK AT MOST 1048576: true; the input reads as it did. -/
def digestSumsUptoRow : OpenClaim := { program := "ytpiahnecpbalhaa", sum := "0a0e919d7e54aacfdf3bbaa489049b5d5d0083184b39561a6e0890052530940d", func := "escapement/escapementlaw18.DigestSums", spec := "digestSums", inPlace := ["math/bits.Add64"], unfollowed := true, recurses := true, apart := false, narrowed := true }
def DigestSumsUptoSaid : Prop := digestSumsUptoRow.holds Try.pinned (OpenSpec.upto digestSumsSpec)

/-- 'escapementlaw18.DigestEnds', WHERE WHAT IT READS IS OF BULK AT MOST 1048576: true; the input reads as it did. -/
def digestEndsUptoRow : OpenClaim := { program := "ytpiahnecpbalhaa", sum := "0a0e919d7e54aacfdf3bbaa489049b5d5d0083184b39561a6e0890052530940d", func := "escapement/escapementlaw18.DigestEnds", spec := "digestEnds", inPlace := ["math/bits.Add64"], unfollowed := true, recurses := true, apart := false, narrowed := true }
def DigestEndsUptoSaid : Prop := digestEndsUptoRow.holds Try.pinned (OpenSpec.upto digestEndsSpec)

/-- 'escapementlaw18.DigestHex', WHERE WHAT IT READS IS OF BULK AT MOST 1048576: true; the input reads as it did. -/
def digestHexUptoRow : OpenClaim := { program := "ytpiahnecpbalhaa", sum := "0a0e919d7e54aacfdf3bbaa489049b5d5d0083184b39561a6e0890052530940d", func := "escapement/escapementlaw18.DigestHex", spec := "digestHex", inPlace := ["math/bits.Add64"], unfollowed := true, recurses := true, apart := false, narrowed := true }
def DigestHexUptoSaid : Prop := digestHexUptoRow.holds Try.pinned (OpenSpec.upto digestHexSpec)

/-- 'escapementlaw18.DigestAgain', WHERE WHAT IT READS IS OF BULK AT MOST 1048576: true; the input reads as it did. -/
def digestAgainUptoRow : OpenClaim := { program := "ytpiahnecpbalhaa", sum := "0a0e919d7e54aacfdf3bbaa489049b5d5d0083184b39561a6e0890052530940d", func := "escapement/escapementlaw18.DigestAgain", spec := "digestAgain", inPlace := ["math/bits.Add64"], unfollowed := true, recurses := true, apart := false, narrowed := true }
def DigestAgainUptoSaid : Prop := digestAgainUptoRow.holds Try.pinned (OpenSpec.upto digestAgainSpec)

/-- 'escapementlaw15.HealthKinds', WHERE WHAT IT READS IS OF BULK AT MOST 1048576: true; the input reads as it did. -/
def healthKindsUptoRow : OpenClaim := { program := "ytpiahnecpbalhaa", sum := "0a0e919d7e54aacfdf3bbaa489049b5d5d0083184b39561a6e0890052530940d", func := "escapement/escapementlaw15.HealthKinds", spec := "healthKinds", inPlace := ["internal/reflectlite.TypeOf"], unfollowed := true, recurses := true, apart := false, narrowed := true }
def HealthKindsUptoSaid : Prop := healthKindsUptoRow.holds Try.pinned (OpenSpec.upto healthKindsSpec)

end Rows
end Go.Proofs.Ytpiahnecpbalhaa
